/- An abstract machine beside the model (fifth part): rules for reckoning, and the way from a row to a contract. Conditions: those of each theorem. -/
import Derived.Test.YtahalmofaboejaaGreatME
import Derived.ProofKit
import Derived.WalkKit
import Derived.OpenShut
import Derived.ShutString
import Derived.ChangeOld
import Derived.Below
import Derived.Carry

set_option linter.unusedVariables false
set_option linter.unusedSimpArgs false

/- How a function's proof goes by reckoning: a rule for each operation. No program in sight. -/
section
namespace Go.Vm
class Tg {α : Type} (x : α) : Type where
  mk ::
instance tg {α : Type} (x : α) : Tg x := ⟨⟩
def callW (P : Program) (d : Nat) (f : FuncId) (pre : List CapV) (ops : List Operand) (post : List CapV) (y : Option Operand) (s : St) (K : St → AV → Prop) [Tg K] : Prop := callK P d f pre ops post y s K
def rngW (P : Program) (g : Operand) (ps : List Nat) (x y : VCode) (s : St) (O : Outs) [Tg x] [Tg y] [Tg O] : Prop := rngV P (wpV P x) (wpV P y) g ps s O
def yieldW (P : Program) (l : Nat) (ops : List Operand) (s : St) (K : St → AV → Prop) [Tg K] : Prop := yieldK P l ops s K
def loopW (P : Program) (c : VCode) (s : St) (O : Outs) [Tg c] [Tg O] : Prop := loopV (wpV P c) s O
def onB (x : AV) (K : Bool → Prop) [Tg K] : Prop := match x with | .iv (.v (.bool b)) => K b | _ => False
def onG (x : AV) (K : Bool → Prop) [Tg K] (U : Prop) : Prop := match x with | .iv (.v (.bool b)) => K b | .un => U | _ => False
def onD (x : AV) (A B : Prop) [Tg A] [Tg B] : Prop := match x with | .iv (.v (.bool b)) => (b = true → A) ∧ (b = false → B) | _ => False
def onH (x : AV) (b : Bool) (A B U : Prop) [Tg A] [Tg B] [Tg U] : Prop := match x with | .iv (.v (.bool c)) => (c = b → A) ∧ (c = !b → B) | .un => U | _ => False
def onSt (s : St) (K : St → Prop) [Tg K] : Prop := K s
def onV (x : AV) (K : Value → Prop) [Tg K] : Prop := match x with | .iv (.v u) => K u | _ => False
def onI (x : AV) (K : Int → Prop) [Tg K] : Prop := match x with | .iv (.v (.int _ m)) => K m | _ => False
def onT (x : AV) (K : ByteArray → Prop) [Tg K] : Prop := match x with | .iv (.v (.string t)) => K t | _ => False
def onS {α : Type} (x : Option α) (K : α → Prop) [Tg K] : Prop := match x with | some y => K y | none => False
def onAgg (x : AV) (K : List AV → Prop) [Tg K] : Prop := match x with | .agg cs => K cs | _ => False
def onTup (x : AV) (K : List AV → Prop) [Tg K] : Prop := match x with | .tup cs => K cs | _ => False
def onBox (x : Option Ob) (K : List AV → Prop) [Tg K] : Prop := match x with | some (.box cs) => K cs | _ => False
def onList (x : Option Ob) (K : Nat → List (List IV) → Prop) [Tg K] : Prop := match x with | some (.list sz xs) => K sz xs | _ => False
def onL2 (x : Option Ob) (K : Nat → List (List IV) → Prop) (K2 : Nat → List (List (List IV)) → Option Nat → Prop) [Tg K] [Tg K2] : Prop := match x with | some (.list sz xs) => K sz xs | some (.listo sz xs hole) => K2 sz xs hole | _ => False
def onSl4 (x : AV) (K : Nat → Nat → Nat → Nat → Prop) [Tg K] : Prop := match x with | .sl a b c d => K a b c d | _ => False
def onMap (x : Option Ob) (K : Sk → (List Value → Option (List IV)) → Prop) [Tg K] : Prop := match x with | some (.map sk g) => K sk g | _ => False
def onMapS (x : Option Ob) (K : Sk → (List Value → Option (List IV)) → Int → List Value → Prop) [Tg K] : Prop := match x with | some (.mapS sk g n k) => K sk g n k | _ => False
def onIter (x : Option Ob) (K : Sk → (List Value → Option (List IV)) → List (List Value) → Option (List Value) → Prop) [Tg K] : Prop := match x with | some (.iter sk g l k) => K sk g l k | _ => False
def onMpr (x : AV) (K : Nat → Prop) [Tg K] : Prop := match x with | .mpr id => K id | _ => False
section
variable {P : Program} {d id off : Nat} {s : St} {K : St → AV → Prop} {K1 : St → Prop} {x y : Operand}
@[simp] theorem onB_b {b : Bool} {K : Bool → Prop} : onB (.iv (.v (.bool b))) K ↔ K b := ⟨id, id⟩
@[simp] theorem onG_b {b : Bool} {K : Bool → Prop} {U : Prop} : onG (.iv (.v (.bool b))) K U ↔ K b := ⟨id, id⟩
@[simp] theorem onG_un {K : Bool → Prop} {U : Prop} : onG .un K U ↔ U := ⟨id, id⟩
@[simp] theorem onD_t {A B : Prop} : onD (.iv (.v (.bool true))) A B ↔ A := by simp [onD]
@[simp] theorem onD_f {A B : Prop} : onD (.iv (.v (.bool false))) A B ↔ B := by simp [onD]
@[simp low] theorem onD_b {b : Bool} {A B : Prop} : onD (.iv (.v (.bool b))) A B ↔ (b = true → A) ∧ (b = false → B) := ⟨fun h => h, fun h => h⟩
@[simp] theorem onH_tt {A B U : Prop} : onH (.iv (.v (.bool true))) true A B U ↔ A := by simp [onH]
@[simp] theorem onH_tf {A B U : Prop} : onH (.iv (.v (.bool true))) false A B U ↔ B := by simp [onH]
@[simp] theorem onH_ft {A B U : Prop} : onH (.iv (.v (.bool false))) true A B U ↔ B := by simp [onH]
@[simp] theorem onH_ff {A B U : Prop} : onH (.iv (.v (.bool false))) false A B U ↔ A := by simp [onH]
@[simp] theorem onH_un {b : Bool} {A B U : Prop} : onH .un b A B U ↔ U := ⟨fun h => h, fun h => h⟩
@[simp low] theorem onH_t {c : Bool} {A B U : Prop} : onH (.iv (.v (.bool c))) true A B U ↔ (c = true → A) ∧ (c = false → B) := ⟨fun h => h, fun h => h⟩
@[simp low] theorem onH_f {c : Bool} {A B U : Prop} : onH (.iv (.v (.bool c))) false A B U ↔ (c = false → A) ∧ (c = true → B) := ⟨fun h => h, fun h => h⟩
@[simp] theorem onSt_mk {fr : List (Nat × AV)} {hp : Hp} {K : St → Prop} : onSt ⟨fr, hp⟩ K ↔ K ⟨fr, hp⟩ := ⟨fun h => h, fun h => h⟩
@[simp] theorem onV_v {u : Value} {K : Value → Prop} : onV (.iv (.v u)) K ↔ K u := ⟨id, id⟩
@[simp] theorem onI_i {k : IntKind} {m : Int} {K : Int → Prop} : onI (.iv (.v (.int k m))) K ↔ K m := ⟨id, id⟩
@[simp] theorem onT_t {t : ByteArray} {K : ByteArray → Prop} : onT (.iv (.v (.string t))) K ↔ K t := ⟨id, id⟩
@[simp] theorem onS_s {α : Type} {a : α} {K : α → Prop} : onS (some a) K ↔ K a := ⟨id, id⟩
@[simp] theorem onS_n {α : Type} {K : α → Prop} : onS none K ↔ False := ⟨id, id⟩
@[simp] theorem onAgg_a {cs : List AV} {K : List AV → Prop} : onAgg (.agg cs) K ↔ K cs := ⟨id, id⟩
@[simp] theorem onTup_t {cs : List AV} {K : List AV → Prop} : onTup (.tup cs) K ↔ K cs := ⟨id, id⟩
@[simp] theorem onBox_b {cs : List AV} {K : List AV → Prop} : onBox (some (.box cs)) K ↔ K cs := ⟨id, id⟩
@[simp] theorem onList_l {sz : Nat} {xs : List (List IV)} {K : Nat → List (List IV) → Prop} : onList (some (.list sz xs)) K ↔ K sz xs := ⟨id, id⟩
@[simp] theorem onMap_m {sk g} {K : Sk → (List Value → Option (List IV)) → Prop} : onMap (some (.map sk g)) K ↔ K sk g := ⟨id, id⟩
@[simp] theorem onMapS_m {sk g n k} {K : Sk → (List Value → Option (List IV)) → Int → List Value → Prop} : onMapS (some (.mapS sk g n k)) K ↔ K sk g n k := ⟨id, id⟩
@[simp] theorem onIter_i {sk g l k} {K : Sk → (List Value → Option (List IV)) → List (List Value) → Option (List Value) → Prop} : onIter (some (.iter sk g l k)) K ↔ K sk g l k := ⟨id, id⟩
@[simp] theorem onMpr_m {K : Nat → Prop} : onMpr (.mpr id) K ↔ K id := ⟨fun h => h, fun h => h⟩
theorem onB_iff {x : AV} {K : Bool → Prop} : onB x K ↔ ∃ b, x = .iv (.v (.bool b)) ∧ K b := by
  unfold onB; split <;> simp_all
theorem onV_iff {x : AV} {K : Value → Prop} : onV x K ↔ ∃ b, x = .iv (.v b) ∧ K b := by
  unfold onV; split <;> simp_all
theorem onT_iff {x : AV} {K : ByteArray → Prop} : onT x K ↔ ∃ b, x = .iv (.v (.string b)) ∧ K b := by
  unfold onT; split <;> simp_all
theorem onAgg_iff {x : AV} {K : List AV → Prop} : onAgg x K ↔ ∃ b, x = .agg b ∧ K b := by
  unfold onAgg; split <;> simp_all
theorem onTup_iff {x : AV} {K : List AV → Prop} : onTup x K ↔ ∃ b, x = .tup b ∧ K b := by
  unfold onTup; split <;> simp_all
theorem onMpr_iff {x : AV} {K : Nat → Prop} : onMpr x K ↔ ∃ b, x = .mpr b ∧ K b := by
  unfold onMpr; split <;> simp_all
theorem onI_iff {x : AV} {K : Int → Prop} : onI x K ↔ ∃ k b, x = .iv (.v (.int k b)) ∧ K b := by
  unfold onI; split
  · exact ⟨fun h => ⟨_, _, rfl, h⟩, fun ⟨_, _, e, h⟩ => by cases e; exact h⟩
  · rename_i hn; exact ⟨fun h => h.elim, fun ⟨_, _, e, h⟩ => (hn _ _ e).elim⟩
theorem onS_iff {α : Type} {x : Option α} {K : α → Prop} : onS x K ↔ ∃ b, x = some b ∧ K b := by
  unfold onS; split <;> simp_all
theorem onBox_iff {x : Option Ob} {K : List AV → Prop} : onBox x K ↔ ∃ b, x = some (.box b) ∧ K b := by
  unfold onBox; split <;> simp_all
@[simp] theorem onL2_l {sz : Nat} {xs : List (List IV)} {K : Nat → List (List IV) → Prop} {K2 : Nat → List (List (List IV)) → Option Nat → Prop} : onL2 (some (.list sz xs)) K K2 ↔ K sz xs := ⟨id, id⟩
@[simp] theorem onL2_lo {sz : Nat} {xs : List (List (List IV))} {hole : Option Nat} {K : Nat → List (List IV) → Prop} {K2 : Nat → List (List (List IV)) → Option Nat → Prop} : onL2 (some (.listo sz xs hole)) K K2 ↔ K2 sz xs hole := ⟨id, id⟩
@[simp] theorem onSl4_sl {a b c d : Nat} {K : Nat → Nat → Nat → Nat → Prop} : onSl4 (.sl a b c d) K ↔ K a b c d := ⟨id, id⟩
theorem onList_iff {x : Option Ob} {K : Nat → List (List IV) → Prop} : onList x K ↔ ∃ sz b, x = some (.list sz b) ∧ K sz b := by
  unfold onList; split
  · exact ⟨fun h => ⟨_, _, rfl, h⟩, fun ⟨_, _, e, h⟩ => by cases e; exact h⟩
  · rename_i hn; exact ⟨fun h => h.elim, fun ⟨_, _, e, h⟩ => (hn _ _ e).elim⟩
theorem onMap_iff {x : Option Ob} {K : Sk → (List Value → Option (List IV)) → Prop} : onMap x K ↔ ∃ sk g, x = some (.map sk g) ∧ K sk g := by
  unfold onMap; split
  · exact ⟨fun h => ⟨_, _, rfl, h⟩, fun ⟨_, _, e, h⟩ => by cases e; exact h⟩
  · rename_i hn; exact ⟨fun h => h.elim, fun ⟨_, _, e, h⟩ => (hn _ _ e).elim⟩
theorem onMapS_iff {x : Option Ob} {K : Sk → (List Value → Option (List IV)) → Int → List Value → Prop} : onMapS x K ↔ ∃ sk g n k, x = some (.mapS sk g n k) ∧ K sk g n k := by
  unfold onMapS; split
  · exact ⟨fun h => ⟨_, _, _, _, rfl, h⟩, fun ⟨_, _, _, _, e, h⟩ => by cases e; exact h⟩
  · rename_i hn; exact ⟨fun h => h.elim, fun ⟨_, _, _, _, e, h⟩ => (hn _ _ _ _ e).elim⟩
theorem onIter_iff {x : Option Ob} {K : Sk → (List Value → Option (List IV)) → List (List Value) → Option (List Value) → Prop} : onIter x K ↔ ∃ sk g l k, x = some (.iter sk g l k) ∧ K sk g l k := by
  unfold onIter; split
  · exact ⟨fun h => ⟨_, _, _, _, rfl, h⟩, fun ⟨_, _, _, _, e, h⟩ => by cases e; exact h⟩
  · rename_i hn; exact ⟨fun h => h.elim, fun ⟨_, _, _, _, e, h⟩ => (hn _ _ _ _ e).elim⟩
@[congr] theorem onB_congr {x x' : AV} {K : Bool → Prop} (h : x = x') : onB x K = onB x' K := by rw [h]
@[congr] theorem onV_congr {x x' : AV} {K : Value → Prop} (h : x = x') : onV x K = onV x' K := by rw [h]
@[congr] theorem onI_congr {x x' : AV} {K : Int → Prop} (h : x = x') : onI x K = onI x' K := by rw [h]
@[congr] theorem onT_congr {x x' : AV} {K : ByteArray → Prop} (h : x = x') : onT x K = onT x' K := by rw [h]
@[congr] theorem onAgg_congr {x x' : AV} {K : List AV → Prop} (h : x = x') : onAgg x K = onAgg x' K := by rw [h]
@[congr] theorem onTup_congr {x x' : AV} {K : List AV → Prop} (h : x = x') : onTup x K = onTup x' K := by rw [h]
@[congr] theorem onBox_congr {x x' : Option Ob} {K : List AV → Prop} (h : x = x') : onBox x K = onBox x' K := by rw [h]
@[congr] theorem onList_congr {x x' : Option Ob} {K : Nat → List (List IV) → Prop} (h : x = x') : onList x K = onList x' K := by rw [h]
@[congr] theorem onL2_congr {x x' : Option Ob} {K : Nat → List (List IV) → Prop} {K2 : Nat → List (List (List IV)) → Option Nat → Prop} (h : x = x') : onL2 x K K2 = onL2 x' K K2 := by rw [h]
@[congr] theorem onSl4_congr {x x' : AV} {K : Nat → Nat → Nat → Nat → Prop} (h : x = x') : onSl4 x K = onSl4 x' K := by rw [h]
@[congr] theorem onMap_congr {x x' : Option Ob} {K : Sk → (List Value → Option (List IV)) → Prop} (h : x = x') : onMap x K = onMap x' K := by rw [h]
@[congr] theorem onMapS_congr {x x' : Option Ob} {K : Sk → (List Value → Option (List IV)) → Int → List Value → Prop} (h : x = x') : onMapS x K = onMapS x' K := by rw [h]
@[congr] theorem onIter_congr {x x' : Option Ob} {K : Sk → (List Value → Option (List IV)) → List (List Value) → Option (List Value) → Prop} (h : x = x') : onIter x K = onIter x' K := by rw [h]
@[congr] theorem onMpr_congr {x x' : AV} {K : Nat → Prop} (h : x = x') : onMpr x K = onMpr x' K := by rw [h]
@[congr] theorem onD_congr {x x' : AV} {A B : Prop} (h : x = x') : onD x A B = onD x' A B := by rw [h]
@[congr] theorem onH_congr {x x' : AV} {b : Bool} {A B U : Prop} (h : x = x') : onH x b A B U = onH x' b A B U := by rw [h]
@[congr] theorem onSt_congr {s s' : St} {K : St → Prop} (h : s = s') : onSt s K = onSt s' K := by rw [h]
@[congr] theorem onG_congr {x x' : AV} {K : Bool → Prop} {U : Prop} (h : x = x') : onG x K U = onG x' K U := by rw [h]
@[congr] theorem onS_congr {α : Type} {x x' : Option α} {K : α → Prop} (h : x = x') : onS x K = onS x' K := by rw [h]
@[congr] theorem vops_congr' {P : Program} {l l' : List VOp} {s s' : St} {K : St → Prop} (hl : l = l') (h : s = s') : vops P l s K = vops P l' s' K := by rw [h, hl]
@[congr] theorem vtree_congr' {P : Program} {l l' : VT} {s s' : St} {K : St → Prop} (hl : l = l') (h : s = s') : vtree P l s K = vtree P l' s' K := by rw [h, hl]
@[congr] theorem wpV_congr2 {P : Program} {c c' : VCode} {s s' : St} {O : Outs} (hc : c = c') (h : s = s') : wpV P c s O = wpV P c' s' O := by rw [h, hc]
@[congr] theorem callW_congr {P : Program} {d : Nat} {f : FuncId} {pre post : List CapV} {ops : List Operand} {y : Option Operand} {s s' : St} {K : St → AV → Prop} (h : s = s') :
    callW P d f pre ops post y s K = callW P d f pre ops post y s' K := by rw [h]
@[congr] theorem rngW_congr {P : Program} {g : Operand} {ps : List Nat} {x y : VCode} {s s' : St} {O : Outs} (h : s = s') : rngW P g ps x y s O = rngW P g ps x y s' O := by rw [h]
@[congr] theorem yieldW_congr {P : Program} {l : Nat} {ops : List Operand} {s s' : St} {K : St → AV → Prop} (h : s = s') : yieldW P l ops s K = yieldW P l ops s' K := by rw [h]
@[congr] theorem loopW_congr {P : Program} {c : VCode} {s s' : St} {O : Outs} (h : s = s') : loopW P c s O = loopW P c s' O := by rw [h]
/- the code -/
@[simp] theorem vops_nil {s : St} : vops P [] s K1 ↔ K1 s := ⟨fun h => h, fun h => h⟩
@[simp] theorem vops_cons {o : VOp} {r : List VOp} : vops P (o :: r) s K1 ↔ vop1 P o s fun s' => vops P r s' K1 := ⟨fun h => h, fun h => h⟩
@[simp] theorem vtree_done : vtree P .done s K1 ↔ K1 s := ⟨fun h => h, fun h => h⟩
@[simp] theorem vtree_op {o : VOp} {t : VT} : vtree P (.op o t) s K1 ↔ vop1 P o s fun s' => vtree P t s' K1 := ⟨fun h => h, fun h => h⟩
@[simp] theorem vtree_alt {a b : VT} : vtree P (.alt a b) s K1 ↔ vtree P a s K1 ∧ vtree P b s K1 := ⟨fun h => h, fun h => h⟩
@[simp] theorem vop1_n {d : Option Nat} {r : Rhs} : vop1 P ⟨d, none, r⟩ s K1 ↔ onSt s fun s => stp P (d.getD 999) s (fun s' x => K1 (s'.put d x)) r := ⟨fun h => h, fun h => h⟩
@[simp] theorem vop1_g {d : Option Nat} {t : Nat} {b : Bool} {r : Rhs} : vop1 P ⟨d, some (t, b), r⟩ s K1 ↔
    onSt s fun s => onH (s.get t) b (stp P (d.getD 999) (s.lit t b) (fun s' x => K1 (s'.put d x)) r) (K1 ((s.lit t !b).put d .un)) (K1 (s.put d .un)) := by
  simp only [vop1, onSt, onH]; split <;> simp_all
variable {O : Outs}
@[simp] theorem wpV_skip : wpV P .skip s O ↔ O.n s := ⟨fun h => h, fun h => h⟩
@[simp] theorem wpV_reg {l : List VOp} : wpV P (.reg l) s O ↔ vops P l s O.n := ⟨fun h => h, fun h => h⟩
@[simp] theorem wpV_any {t : VT} : wpV P (.any t) s O ↔ vtree P t s O.n := ⟨fun h => h, fun h => h⟩
@[simp] theorem wpV_seq {a b : VCode} : wpV P (.seq a b) s O ↔ wpV P a s ⟨fun s' => wpV P b s' O, O.x, O.r, O.g⟩ := ⟨fun h => h, fun h => h⟩
@[simp] theorem wpV_cond {t e : VCode} : wpV P (.cond x t e) s O ↔ onSt s fun s => onD (s.ev x) (wpV P t s O) (wpV P e s O) := by
  simp only [wpV, onSt, onD]; split <;> simp_all
@[simp] theorem wpV_block {c : VCode} : wpV P (.block id c) s O ↔ wpV P c s ⟨O.n, fun j s' => if j = id then O.n s' else O.x j s', O.r, O.g⟩ := ⟨fun h => h, fun h => h⟩
@[simp] theorem wpV_rng {g : Operand} {ps : List Nat} {x y : VCode} : wpV P (.rng g ps x y) s O ↔ rngW P g ps x y s O := ⟨fun h => h, fun h => h⟩
@[simp] theorem wpV_loop {c : VCode} : wpV P (.loop c) s O ↔ loopW P c s O := ⟨fun h => h, fun h => h⟩
@[simp] theorem wpV_exit : wpV P (.exit id) s O ↔ O.x id s := ⟨fun h => h, fun h => h⟩
@[simp] theorem wpV_ret : wpV P .ret s O ↔ O.r s := ⟨fun h => h, fun h => h⟩
@[simp] theorem wpV_goto {l : Nat} : wpV P (.goto l) s O ↔ O.g l s := ⟨fun h => h, fun h => h⟩
@[simp] theorem wpV_scope {c : VCode} : wpV P (.scope c) s O ↔ wpV P c s ⟨O.n, O.x, O.r, fun _ _ => False⟩ := ⟨fun h => h, fun h => h⟩
@[simp] theorem wpV_scopeL {c r : VCode} {l : Nat} : wpV P (.scopeL c l r) s O ↔ wpV P c s ⟨O.n, O.x, O.r, fun l' s' => l' = l ∧ wpV P r s' ⟨O.n, O.x, O.r, fun _ _ => False⟩⟩ := ⟨fun h => h, fun h => h⟩
/- the operations -/
@[simp] theorem stp_mov : stp P d s K (.mov x) ↔ K s (s.ev x) := ⟨fun h => h, fun h => h⟩
@[simp] theorem stp_nils {sz : Nat} : stp P d s K (.nils sz) ↔ K ((s.drop d).add d (.list sz [])) (.sl d sz 0 0) := ⟨fun h => h, fun h => h⟩
@[simp] theorem stp_pick {c : Operand} : stp P d s K (.pick c x y) ↔ onB (s.ev c) fun t => K s (if t then s.ev x else s.ev y) := by
  first
  | exact ⟨fun h => h, fun h => h⟩
  | (simp only [stp, onB_iff, onV_iff, onT_iff, onAgg_iff, onTup_iff, onMpr_iff, onI_iff, onS_iff, onBox_iff, onList_iff, onMap_iff, onMapS_iff, onIter_iff]; repeat' split
     all_goals first | (simp_all; done) | grind)
@[simp] theorem stp_alloc {z : List AV} : stp P d s K (.alloc z) ↔ K ((s.drop d).add d (.box z)) (.ptr d 0) := ⟨fun h => h, fun h => h⟩
@[simp] theorem stp_box : stp P d s K (.box x) ↔ onS (((s.drop d).ev x).cellsOf) fun cs => K ((s.drop d).add d (.box cs)) (.ptr d 0) := by
  first
  | exact ⟨fun h => h, fun h => h⟩
  | (simp only [stp, onB_iff, onV_iff, onT_iff, onAgg_iff, onTup_iff, onMpr_iff, onI_iff, onS_iff, onBox_iff, onList_iff, onMap_iff, onMapS_iff, onIter_iff]; repeat' split
     all_goals first | (simp_all; done) | grind)
@[simp] theorem stp_build {z : List AV} {parts : List (Nat × Nat × Operand)} : stp P d s K (.build z parts) ↔ onS (fillA s z parts) fun cs => K s (.agg cs) := by
  first
  | exact ⟨fun h => h, fun h => h⟩
  | (simp only [stp, onB_iff, onV_iff, onT_iff, onAgg_iff, onTup_iff, onMpr_iff, onI_iff, onS_iff, onBox_iff, onList_iff, onMap_iff, onMapS_iff, onIter_iff]; repeat' split
     all_goals first | (simp_all; done) | grind)
@[simp] theorem stp_lit {sz len : Nat} {parts : List (Nat × Operand)} : stp P d s K (.lit sz len parts) ↔
    onS (litA ((s.frz (parts.map fun p => s.ev p.2)).drop d) sz parts) fun xs => K (((s.frz (parts.map fun p => s.ev p.2)).drop d).add d (.list sz xs)) (.sl d sz 0 len) := by
  first
  | exact ⟨fun h => h, fun h => h⟩
  | (simp only [stp, onB_iff, onV_iff, onT_iff, onAgg_iff, onTup_iff, onMpr_iff, onI_iff, onS_iff, onBox_iff, onList_iff, onMap_iff, onMapS_iff, onIter_iff]; repeat' split
     all_goals first | (simp_all; done) | grind)
def ldN (s : St) (d : Nat) (x : Operand) (K : St → AV → Prop) [Tg K] : AV → Prop
    | .ptr id off => onBox (look s.hp id) fun cs => onS cs[off]? (K s)
    | .ep id _ i off => onL2 (look s.hp id) (fun _ xs => onS (at2 xs i off) fun y => K s (.iv y)) (fun sz2 xs hole => hole = none ∧ off = 0 ∧ id ≠ d ∧ (s.drop d).ev x = .ep id 1 i 0 ∧ look (s.drop d).hp id = some (.listo sz2 xs none) ∧ onS xs[i]? fun ys => K (((s.drop d).add id (.listo sz2 xs (some i))).add d (.lent id sz2 ys)) (.sl d sz2 0 ys.length))
    | .iv (.pt cs) => onS cs[0]? fun y => K s (.iv y)
    | _ => False
@[simp] theorem ldN_ptr {K : St → AV → Prop} : ldN s d x K (.ptr id off) ↔ onBox (look s.hp id) fun cs => onS cs[off]? (K s) := ⟨fun h => h, fun h => h⟩
@[simp] theorem ldN_ep {K : St → AV → Prop} {z i : Nat} : ldN s d x K (.ep id z i off) ↔ onL2 (look s.hp id) (fun _ xs => onS (at2 xs i off) fun y => K s (.iv y)) (fun sz2 xs hole => hole = none ∧ off = 0 ∧ id ≠ d ∧ (s.drop d).ev x = .ep id 1 i 0 ∧ look (s.drop d).hp id = some (.listo sz2 xs none) ∧ onS xs[i]? fun ys => K (((s.drop d).add id (.listo sz2 xs (some i))).add d (.lent id sz2 ys)) (.sl d sz2 0 ys.length)) := ⟨fun h => h, fun h => h⟩
@[simp] theorem ldN_pt {K : St → AV → Prop} {cs : List IV} : ldN s d x K (.iv (.pt cs)) ↔ onS cs[0]? fun y => K s (.iv y) := ⟨fun h => h, fun h => h⟩
@[simp] theorem stp_ld : stp P d s K (.ld x none) ↔ ldN s d x K (s.ev x) := by
  simp only [stp]
  generalize s.ev x = ax
  cases ax with
  | ptr id off =>
    simp only [ldN_ptr, onBox_iff, onS_iff]
    repeat' split
    all_goals (simp_all; done)
  | ep id sz i off =>
    simp only [ldN_ep]
    cases hl : look s.hp id with
    | none => exact ⟨fun h => h, fun h => h⟩
    | some o =>
      cases o with
      | list z xs => simp only [onL2_l, onS_iff]; split <;> simp_all
      | listo z xs hole => simp only [onL2_lo, onS_iff]; split <;> simp_all
      | _ => exact ⟨fun h => h, fun h => h⟩
  | iv y =>
    cases y with
    | pt cs => simp only [ldN_pt, onS_iff]; repeat' split
               all_goals (simp_all; done)
    | _ => exact ⟨fun h => h, fun h => h⟩
  | _ => exact ⟨fun h => h, fun h => h⟩
def ldS (H : Hp) (n : Nat) (x : AV) (K : AV → Prop) [Tg K] : Prop := match x with
    | .ptr id off => onBox (look H id) fun cs => off + n ≤ cs.length ∧ K (.agg ((cs.drop off).take n))
    | .ep id _ i off => onList (look H id) fun _ xs => onS xs[i]? fun r => off + n ≤ r.length ∧ K (.agg (((r.drop off).take n).map .iv))
    | .iv (.pt cs) => n ≤ cs.length ∧ K (.agg ((cs.take n).map .iv))
    | _ => False
@[simp] theorem ldS_ptr {H : Hp} {n : Nat} {K : AV → Prop} : ldS H n (.ptr id off) K ↔ onBox (look H id) fun cs => off + n ≤ cs.length ∧ K (.agg ((cs.drop off).take n)) := ⟨fun h => h, fun h => h⟩
@[simp] theorem ldS_ep {H : Hp} {n : Nat} {K : AV → Prop} {z i : Nat} : ldS H n (.ep id z i off) K ↔ onList (look H id) fun _ xs => onS xs[i]? fun r => off + n ≤ r.length ∧ K (.agg (((r.drop off).take n).map .iv)) := ⟨fun h => h, fun h => h⟩
@[simp] theorem ldS_pt {H : Hp} {n : Nat} {K : AV → Prop} {cs : List IV} : ldS H n (.iv (.pt cs)) K ↔ n ≤ cs.length ∧ K (.agg ((cs.take n).map .iv)) := ⟨fun h => h, fun h => h⟩
@[simp] theorem stp_lds {n : Nat} : stp P d s K (.ld x (some n)) ↔ ldS s.hp n (s.ev x) (K s) := by
  first
  | exact ⟨fun h => h, fun h => h⟩
  | (simp only [stp, ldS, onB_iff, onV_iff, onT_iff, onAgg_iff, onTup_iff, onMpr_iff, onI_iff, onS_iff, onBox_iff, onList_iff, onMap_iff, onMapS_iff, onIter_iff]; repeat' split
     all_goals first | (simp_all; done) | grind)
def stC (s : St) (x : Operand) (y : Operand) (n : Nat) (K : St → Prop) [Tg K] : AV → Prop
    | .ptr id off => onBox (look s.hp id) fun cs => onS (s.ev y).cellsOf fun cy => cy.length = n ∧ off + n ≤ cs.length ∧ cy.all AV.one = true ∧ K (s.add id (.box (setRange cs off cy)))
    | .ep id _ i off => onL2 (look (s.frz [s.ev y]).hp id) (fun sz xs => onS (((s.frz [s.ev y]).ev y).cellsOf.bind fun cs => allO AV.iv? cs) fun cy => onS xs[i]? fun r =>
        (s.frz [s.ev y]).ev x = .ep id sz i off ∧ cy.length = n ∧ off + n ≤ r.length ∧ K ((s.frz [s.ev y]).add id (.list sz (xs.set i (setRange r off cy))))) (fun sz2 xs hole => onSl4 (s.ev y) fun d' sz' lo len => onS (look s.hp d') fun o => onS o.els fun e => lo = 0 ∧ look s.hp id = some (.listo sz2 xs hole) ∧ (n = 1 ∧ off = 0) ∧ sz' = sz2 ∧ d' < 1000 ∧ d' ≠ id ∧ len = e.2.length ∧ (o.org? = none ∨ o.org? = some id) ∧ hole = some i ∧ K ((s.kill d').add id (.listo sz2 (xs.set i e.2) none)))
    | _ => False
theorem mapM_allO {α β : Type} (f : α → Option β) : ∀ l : List α, l.mapM f = allO f l
  | [] => rfl
  | x :: r => by
    rw [List.mapM_cons]
    simp only [allO, ← mapM_allO f r]
    cases f x with
    | none => rfl
    | some y => cases r.mapM f <;> rfl
@[simp] theorem stC_ptr {n : Nat} {K : St → Prop} : stC s x y n K (.ptr id off) ↔ onBox (look s.hp id) fun cs => onS (s.ev y).cellsOf fun cy => cy.length = n ∧ off + n ≤ cs.length ∧ cy.all AV.one = true ∧ K (s.add id (.box (setRange cs off cy))) := ⟨fun h => h, fun h => h⟩
@[simp] theorem stC_ep {n z i : Nat} {K : St → Prop} : stC s x y n K (.ep id z i off) ↔ onL2 (look (s.frz [s.ev y]).hp id) (fun sz xs => onS (((s.frz [s.ev y]).ev y).cellsOf.bind fun cs => allO AV.iv? cs) fun cy => onS xs[i]? fun r =>
        (s.frz [s.ev y]).ev x = .ep id sz i off ∧ cy.length = n ∧ off + n ≤ r.length ∧ K ((s.frz [s.ev y]).add id (.list sz (xs.set i (setRange r off cy))))) (fun sz2 xs hole => onSl4 (s.ev y) fun d' sz' lo len => onS (look s.hp d') fun o => onS o.els fun e => lo = 0 ∧ look s.hp id = some (.listo sz2 xs hole) ∧ (n = 1 ∧ off = 0) ∧ sz' = sz2 ∧ d' < 1000 ∧ d' ≠ id ∧ len = e.2.length ∧ (o.org? = none ∨ o.org? = some id) ∧ hole = some i ∧ K ((s.kill d').add id (.listo sz2 (xs.set i e.2) none))) := ⟨fun h => h, fun h => h⟩
@[simp] theorem stp_st {n : Nat} : stp P d s K (.st x y n) ↔ stC s x y n (fun s' => K s' .un) (s.ev x) := by
  simp only [stp]
  generalize hx : s.ev x = ax
  cases ax with
  | ptr id off =>
    simp only [stC_ptr, onBox_iff, onS_iff]
    repeat' split
    all_goals first | (simp_all; done) | grind
  | ep id sz i off =>
    simp only [stC_ep, mapM_allO]
    cases hl : look (s.frz [s.ev y]).hp id with
    | none => exact ⟨fun h => h, fun h => h⟩
    | some o =>
      cases o with
      | list z xs => simp only [onL2_l, onS_iff]; repeat' split
                     all_goals first | (simp_all; done) | grind
      | listo z xs hole =>
        simp only [onL2_lo]
        clear hl hx
        generalize s.ev y = ay
        cases ay with
        | sl d' sz' lo len =>
          simp only [onSl4_sl, onS_iff]
          cases lo with
          | zero =>
            cases h1 : look s.hp d' with
            | none => simp [h1]
            | some o =>
              cases h2 : o.els with
              | none => simp [h1, h2]
              | some e =>
                obtain ⟨e1, e2⟩ := e
                simp only [h1, h2, Option.some.injEq, exists_eq_left', true_and]
          | succ lo => exact ⟨fun h => h.elim, fun ⟨_, _, _, _, h, _⟩ => by cases h⟩
        | _ => exact ⟨fun h => h, fun h => h⟩
      | _ => exact ⟨fun h => h, fun h => h⟩
  | _ => exact ⟨fun h => h, fun h => h⟩
def chkK (x : AV) (K : AV → Prop) [Tg K] : Prop := match x with
    | .ptr id off => K (.ptr id off)
    | .ep id sz i off => K (.ep id sz i off)
    | .iv (.pt cs) => K (.iv (.pt cs))
    | _ => False
@[simp] theorem chkK_ptr {K : AV → Prop} : chkK (.ptr id off) K ↔ K (.ptr id off) := ⟨fun h => h, fun h => h⟩
@[simp] theorem chkK_ep {K : AV → Prop} {sz i : Nat} : chkK (.ep id sz i off) K ↔ K (.ep id sz i off) := ⟨fun h => h, fun h => h⟩
@[simp] theorem chkK_pt {K : AV → Prop} {cs : List IV} : chkK (.iv (.pt cs)) K ↔ K (.iv (.pt cs)) := ⟨fun h => h, fun h => h⟩
@[simp] theorem stp_chk : stp P d s K (.chk x) ↔ chkK (s.ev x) (K s) := ⟨fun h => h, fun h => h⟩
@[simp] theorem stp_bin {op : BinOp} : stp P d s K (.bin op x y) ↔ onV (s.ev x) fun u => onV (s.ev y) fun v => onS (binV op u v) fun r => K s (.iv (.v r)) := by
  first
  | exact ⟨fun h => h, fun h => h⟩
  | (simp only [stp, onB_iff, onV_iff, onT_iff, onAgg_iff, onTup_iff, onMpr_iff, onI_iff, onS_iff, onBox_iff, onList_iff, onMap_iff, onMapS_iff, onIter_iff]; repeat' split
     all_goals first | (simp_all; done) | grind)
@[simp] theorem stp_beq {neg : Bool} : stp P d s K (.beq neg x y) ↔ onB (s.ev x) fun u => onB (s.ev y) fun v => K s (.iv (.v (.bool (if neg then u != v else u == v)))) := by
  first
  | exact ⟨fun h => h, fun h => h⟩
  | (simp only [stp, onB_iff, onV_iff, onT_iff, onAgg_iff, onTup_iff, onMpr_iff, onI_iff, onS_iff, onBox_iff, onList_iff, onMap_iff, onMapS_iff, onIter_iff]; repeat' split
     all_goals first | (simp_all; done) | grind)
def peqV : AV → AV → Option Bool
    | .iv (.v (.pointer none)), .iv (.v (.pointer none)) => some true
    | .iv (.v (.pointer none)), .ptr .. => some false
    | .iv (.v (.pointer none)), .iv (.pt _) => some false
    | .ptr .., .iv (.v (.pointer none)) => some false
    | .iv (.pt _), .iv (.v (.pointer none)) => some false
    | _, _ => none
@[simp] theorem peqV_1 : peqV (.iv (.v (.pointer none))) (.iv (.v (.pointer none))) = some true := rfl
@[simp] theorem peqV_2 : peqV (.iv (.v (.pointer none))) (.ptr id off) = some false := rfl
@[simp] theorem peqV_3 {cs : List IV} : peqV (.iv (.v (.pointer none))) (.iv (.pt cs)) = some false := rfl
@[simp] theorem peqV_4 : peqV (.ptr id off) (.iv (.v (.pointer none))) = some false := rfl
@[simp] theorem peqV_5 {cs : List IV} : peqV (.iv (.pt cs)) (.iv (.v (.pointer none))) = some false := rfl
@[simp] theorem stp_peq {neg : Bool} : stp P d s K (.peq neg x y) ↔ onS (peqV (s.ev x) (s.ev y)) fun b => K s (.iv (.v (.bool (b != neg)))) := by
  first
  | exact ⟨fun h => h, fun h => h⟩
  | (simp only [stp, peqV, onB_iff, onV_iff, onT_iff, onAgg_iff, onTup_iff, onMpr_iff, onI_iff, onS_iff, onBox_iff, onList_iff, onMap_iff, onMapS_iff, onIter_iff]; repeat' split
     all_goals first | (simp_all; done) | grind)
@[simp] theorem stp_eqs {neg : Bool} {ks : List Kd} : stp P d s K (.eqs neg ks x y) ↔ onAgg (s.ev x) fun cs => onAgg (s.ev y) fun ds => onS (eqCells ks cs ds) fun b => K s (.iv (.v (.bool (if neg then !b else b)))) := by
  first
  | exact ⟨fun h => h, fun h => h⟩
  | (simp only [stp, onB_iff, onV_iff, onT_iff, onAgg_iff, onTup_iff, onMpr_iff, onI_iff, onS_iff, onBox_iff, onList_iff, onMap_iff, onMapS_iff, onIter_iff]; repeat' split
     all_goals first | (simp_all; done) | grind)
@[simp] theorem stp_un {op : UnOp} : stp P d s K (.un op x) ↔ onV (s.ev x) fun v => onS (unV op v) fun r => K s (.iv (.v r)) := by
  first
  | exact ⟨fun h => h, fun h => h⟩
  | (simp only [stp, onB_iff, onV_iff, onT_iff, onAgg_iff, onTup_iff, onMpr_iff, onI_iff, onS_iff, onBox_iff, onList_iff, onMap_iff, onMapS_iff, onIter_iff]; repeat' split
     all_goals first | (simp_all; done) | grind)
@[simp] theorem stp_cvt {k : IntKind} : stp P d s K (.cvt k x) ↔ onI (s.ev x) fun m => K s (.iv (.v (.int k (k.wrap m)))) := by
  first
  | exact ⟨fun h => h, fun h => h⟩
  | (simp only [stp, onB_iff, onV_iff, onT_iff, onAgg_iff, onTup_iff, onMpr_iff, onI_iff, onS_iff, onBox_iff, onList_iff, onMap_iff, onMapS_iff, onIter_iff]; repeat' split
     all_goals first | (simp_all; done) | grind)
def cutK (s : St) (sz : Nat) (lo hi : Option Operand) (K : AV → Prop) [Tg K] : AV → Prop
    | .iv (.lst sz' xs) => onS (s.bound 0 lo) fun l => onS (s.bound xs.length hi) fun h => sz' = sz ∧ 0 ≤ l ∧ l ≤ h ∧ h ≤ xs.length ∧ K (.iv (.lst sz ((xs.drop l.toNat).take (h - l).toNat)))
    | .sl id sz' o m => onS (s.bound 0 lo) fun l => onS (s.bound m hi) fun h => sz' = sz ∧ 0 ≤ l ∧ l ≤ h ∧ h ≤ m ∧ K (.sl id sz (o + l.toNat) (h - l).toNat)
    | .nil sz' => onS (s.bound 0 lo) fun l => onS (s.bound 0 hi) fun h => l = 0 ∧ h = 0 ∧ K (.nil sz')
    | _ => False
section
variable {sz sz' o m : Nat} {lo hi : Option Operand} {K2 : AV → Prop} {xs : List (List IV)}
@[simp] theorem cutK_lst : cutK s sz lo hi K2 (.iv (.lst sz' xs)) ↔ onS (s.bound 0 lo) fun l => onS (s.bound xs.length hi) fun h => sz' = sz ∧ 0 ≤ l ∧ l ≤ h ∧ h ≤ xs.length ∧ K2 (.iv (.lst sz ((xs.drop l.toNat).take (h - l).toNat))) := ⟨fun h => h, fun h => h⟩
@[simp] theorem cutK_sl : cutK s sz lo hi K2 (.sl id sz' o m) ↔ onS (s.bound 0 lo) fun l => onS (s.bound m hi) fun h => sz' = sz ∧ 0 ≤ l ∧ l ≤ h ∧ h ≤ m ∧ K2 (.sl id sz (o + l.toNat) (h - l).toNat) := ⟨fun h => h, fun h => h⟩
@[simp] theorem cutK_nil : cutK s sz lo hi K2 (.nil sz') ↔ onS (s.bound 0 lo) fun l => onS (s.bound 0 hi) fun h => l = 0 ∧ h = 0 ∧ K2 (.nil sz') := ⟨fun h => h, fun h => h⟩
@[simp] theorem stp_cut : stp P d s K (.cut sz x lo hi) ↔ cutK s sz lo hi (K s) (s.ev x) := by
  first
  | exact ⟨fun h => h, fun h => h⟩
  | (simp only [stp, cutK, onB_iff, onV_iff, onT_iff, onAgg_iff, onTup_iff, onMpr_iff, onI_iff, onS_iff, onBox_iff, onList_iff, onMap_iff, onMapS_iff, onIter_iff]; repeat' split
     all_goals first | (simp_all; done) | grind)
end
def faK (off : Nat) (x : AV) (K : AV → Prop) [Tg K] : Prop := match x with
    | .ptr id o => K (.ptr id (o + off))
    | .ep id sz i o => K (.ep id sz i (o + off))
    | .iv (.pt cs) => K (.iv (.pt (cs.drop off)))
    | _ => False
section
variable {K2 : AV → Prop} {sz i o n : Nat}
@[simp] theorem faK_ptr : faK off (.ptr id o) K2 ↔ K2 (.ptr id (o + off)) := ⟨fun h => h, fun h => h⟩
@[simp] theorem faK_ep : faK off (.ep id sz i o) K2 ↔ K2 (.ep id sz i (o + off)) := ⟨fun h => h, fun h => h⟩
@[simp] theorem faK_pt {cs : List IV} : faK off (.iv (.pt cs)) K2 ↔ K2 (.iv (.pt (cs.drop off))) := ⟨fun h => h, fun h => h⟩
@[simp] theorem stp_fa : stp P d s K (.fa off x) ↔ faK off (s.ev x) (K s) := ⟨fun h => h, fun h => h⟩
@[simp] theorem stp_fld : stp P d s K (.fld off none x) ↔ onAgg (s.ev x) fun cs => onS cs[off]? (K s) := by
  simp only [stp, onB_iff, onV_iff, onT_iff, onAgg_iff, onTup_iff, onMpr_iff, onI_iff, onS_iff, onBox_iff, onList_iff, onMap_iff, onMapS_iff, onIter_iff]; repeat' split
  all_goals first | (simp_all; done) | grind
@[simp] theorem stp_flds : stp P d s K (.fld off (some n) x) ↔ onAgg (s.ev x) fun cs => off + n ≤ cs.length ∧ K s (.agg ((cs.drop off).take n)) := ⟨fun h => h, fun h => h⟩
end
def iaK (sz : Nat) (m : Int) (K : AV → Prop) [Tg K] : AV → Prop
    | .iv (.lst sz' xs) => sz' = sz ∧ 0 ≤ m ∧ onS xs[m.toNat]? fun r => K (.iv (.pt r))
    | .sl id sz' o k => sz' = sz ∧ 0 ≤ m ∧ m < k ∧ K (.ep id sz (o + m.toNat) 0)
    | _ => False
section
variable {K2 : AV → Prop} {sz sz' i o n k : Nat} {m : Int} {xs : List (List IV)}
@[simp] theorem iaK_lst : iaK sz m K2 (.iv (.lst sz' xs)) ↔ sz' = sz ∧ 0 ≤ m ∧ onS xs[m.toNat]? fun r => K2 (.iv (.pt r)) := ⟨fun h => h, fun h => h⟩
@[simp] theorem iaK_sl : iaK sz m K2 (.sl id sz' o k) ↔ sz' = sz ∧ 0 ≤ m ∧ m < k ∧ K2 (.ep id sz (o + m.toNat) 0) := ⟨fun h => h, fun h => h⟩
@[simp] theorem stp_ia : stp P d s K (.ia sz x y) ↔ onI (s.ev y) fun m => iaK sz m (K s) (s.ev x) := by
  rw [onI_iff]
  simp only [stp]
  constructor
  · intro h
    split at h
    · rename_i sz' xs k m e1 e2
      refine ⟨k, m, e2, ?_⟩
      rw [e1, iaK_lst]
      refine ⟨h.1, h.2.1, ?_⟩
      cases hg : xs[m.toNat]? with
      | none => rw [hg] at h; exact h.2.2.elim
      | some r => rw [hg] at h; exact h.2.2
    · rename_i id sz' o q k m e1 e2
      refine ⟨k, m, e2, ?_⟩
      rw [e1, iaK_sl]
      exact h
    · exact h.elim
  · rintro ⟨k, m, e2, h⟩
    rw [e2]
    cases hx : s.ev x with
    | iv x' =>
      rw [hx] at h
      cases x' with
      | lst sz' xs =>
        rw [iaK_lst] at h
        refine ⟨h.1, h.2.1, ?_⟩
        cases hg : xs[m.toNat]? with
        | none => rw [hg] at h; exact h.2.2.elim
        | some r => rw [hg] at h; exact h.2.2
      | _ => exact h.elim
    | sl id sz' o q => rw [hx, iaK_sl] at h; exact h
    | _ => rw [hx] at h; exact h.elim
@[simp] theorem stp_is : stp P d s K (.is x y) ↔ onT (s.ev x) fun t => onI (s.ev y) fun m => 0 ≤ m ∧ onS t[m.toNat]? fun b => K s (.iv (.v (.int .u8 b.toNat))) := by
  first
  | exact ⟨fun h => h, fun h => h⟩
  | (simp only [stp, onB_iff, onV_iff, onT_iff, onAgg_iff, onTup_iff, onMpr_iff, onI_iff, onS_iff, onBox_iff, onList_iff, onMap_iff, onMapS_iff, onIter_iff]; repeat' split
     all_goals first | (simp_all; done) | grind)
@[simp] theorem stp_ext : stp P d s K (.ext i x) ↔ onTup (s.ev x) fun vs => onS vs[i]? (K s) := by
  simp only [stp, onB_iff, onV_iff, onT_iff, onAgg_iff, onTup_iff, onMpr_iff, onI_iff, onS_iff, onBox_iff, onList_iff, onMap_iff, onMapS_iff, onIter_iff]; repeat' split
  all_goals first | (simp_all; done) | grind
end
def lenK (x : AV) (K : Nat → Prop) [Tg K] : Prop := match x with
    | .iv (.lst _ xs) => K xs.length
    | .sl _ _ _ m => K m
    | .nil _ => K 0
    | _ => False
section
variable {K2 : Nat → Prop} {sz o n : Nat} {xs : List (List IV)}
@[simp] theorem lenK_lst : lenK (.iv (.lst sz xs)) K2 ↔ K2 xs.length := ⟨fun h => h, fun h => h⟩
@[simp] theorem lenK_sl : lenK (.sl id sz o n) K2 ↔ K2 n := ⟨fun h => h, fun h => h⟩
@[simp] theorem lenK_nil : lenK (.nil sz) K2 ↔ K2 0 := ⟨fun h => h, fun h => h⟩
@[simp] theorem stp_len : stp P d s K (.len x) ↔ lenK (s.ev x) fun n => K s (.iv (.v (.int .i64 n))) := by
  first
  | exact ⟨fun h => h, fun h => h⟩
  | (simp only [stp, lenK, onB_iff, onV_iff, onT_iff, onAgg_iff, onTup_iff, onMpr_iff, onI_iff, onS_iff, onBox_iff, onList_iff, onMap_iff, onMapS_iff, onIter_iff]; repeat' split
     all_goals first | (simp_all; done) | grind)
@[simp] theorem stp_lens : stp P d s K (.lens x) ↔ onT (s.ev x) fun t => K s (.iv (.v (.int .i64 t.size))) := ⟨fun h => h, fun h => h⟩
end
def appK (s : St) (d sz bytes : Nat) (ys : Option (Nat × List (List IV))) (K : St → AV → Prop) [Tg K] : AV → Prop
    | .sl id sz' lo m => onS ys fun (sz2, ys) => onS (look s.hp id) fun o => onS o.els fun (_, xs) => sz' = sz ∧ (sz2 = sz ∨ ys = []) ∧ id < 1000 ∧ lo + m = xs.length ∧ (m + ys.length) * bytes ≤ 2 ^ 47 ∧ m + ys.length < 2 ^ 62 ∧
          K ((s.lone id).add id (o.setEls sz (xs.drop lo ++ ys))) (.sl id sz 0 (m + ys.length))
    | .nil _ => onS ys fun (sz2, ys) => (sz2 = sz ∨ ys = []) ∧ ys.length * bytes ≤ 2 ^ 47 ∧ ys.length < 2 ^ 62 ∧ K ((s.drop d).add d (.list sz ys)) (.sl d sz 0 ys.length)
    | _ => False
section
variable {sz sz' sz2 bytes lo m : Nat} {ys : List (List IV)}
@[simp] theorem appK_sl : appK s d sz bytes (some (sz2, ys)) K (.sl id sz' lo m) ↔ onS (look s.hp id) fun o => onS o.els fun xs => sz' = sz ∧ (sz2 = sz ∨ ys = []) ∧ id < 1000 ∧ lo + m = xs.2.length ∧ (m + ys.length) * bytes ≤ 2 ^ 47 ∧ m + ys.length < 2 ^ 62 ∧
          K ((s.lone id).add id (o.setEls sz (xs.2.drop lo ++ ys))) (.sl id sz 0 (m + ys.length)) := ⟨fun h => h, fun h => h⟩
@[simp] theorem appK_nil : appK s d sz bytes (some (sz2, ys)) K (.nil sz') ↔ (sz2 = sz ∨ ys = []) ∧ ys.length * bytes ≤ 2 ^ 47 ∧ ys.length < 2 ^ 62 ∧ K ((s.drop d).add d (.list sz ys)) (.sl d sz 0 ys.length) := ⟨fun h => h, fun h => h⟩
@[simp] theorem stp_app : stp P d s K (.app sz bytes x y) ↔ appK s d sz bytes (s.elems (s.ev y)) K (s.ev x) := by
  first
  | exact ⟨fun h => h, fun h => h⟩
  | (simp only [stp, appK, onB_iff, onV_iff, onT_iff, onAgg_iff, onTup_iff, onMpr_iff, onI_iff, onS_iff, onBox_iff, onList_iff, onMap_iff, onMapS_iff, onIter_iff]; repeat' split
     all_goals first | (simp_all; done) | grind)
@[simp] theorem stp_mm {mx : Bool} {xs : List Operand} : stp P d s K (.mm mx xs) ↔ onS (minmax mx (xs.map s.ev)) fun p => K s (.iv (.v (.int p.1 p.2))) := by
  first
  | exact ⟨fun h => h, fun h => h⟩
  | (simp only [stp, onB_iff, onV_iff, onT_iff, onAgg_iff, onTup_iff, onMpr_iff, onI_iff, onS_iff, onBox_iff, onList_iff, onMap_iff, onMapS_iff, onIter_iff]; repeat' split
     all_goals first | (simp_all; done) | grind)
@[simp] theorem stp_mkfn {f : FuncId} {first caps : List Operand} : stp P d s K (.mkfn f first caps) ↔ onS (allO AV.cap (first.map s.ev)) fun a => onS (allO AV.cap (caps.map s.ev)) fun b => K s (.fn f a b) := by
  first
  | exact ⟨fun h => h, fun h => h⟩
  | (simp only [stp, mapM_allO, onB_iff, onV_iff, onT_iff, onAgg_iff, onTup_iff, onMpr_iff, onI_iff, onS_iff, onBox_iff, onList_iff, onMap_iff, onMapS_iff, onIter_iff]; repeat' split
     all_goals first | (simp_all; done) | grind)
@[simp] theorem stp_call {f : FuncId} {args : List Operand} : stp P d s K (.call f args) ↔ callW P d f [] args [] none s K := ⟨fun h => h, fun h => h⟩
end
def callF (P : Program) (d : Nat) (args : List Operand) (x : Operand) (s : St) (K : St → AV → Prop) [Tg K] : AV → Prop
    | .fn f first caps => okFn P f = true ∧ callK P d f first args caps (some x) s K
    | .iv (.v (.func (.yield l) vf vc)) => vf = #[] ∧ vc = #[] ∧ yieldK P l args s K
    | _ => False
@[simp] theorem callF_yield {args : List Operand} {l : Nat} : callF P d args x s K (.iv (.v (.func (.yield l) #[] #[]))) ↔ yieldW P l args s K := ⟨fun h => h.2.2, fun h => ⟨rfl, rfl, h⟩⟩
@[simp] theorem callF_fn {args : List Operand} {f : FuncId} {first caps : List CapV} : callF P d args x s K (.fn f first caps) ↔ okFn P f = true ∧ callW P d f first args caps (some x) s K := ⟨fun h => h, fun h => h⟩
@[simp] theorem stp_callv {args : List Operand} : stp P d s K (.callv x args) ↔ callF P d args x s K (s.ev x) := by
  first
  | exact ⟨fun h => h, fun h => h⟩
  | (simp only [stp, callF, onB_iff, onV_iff, onT_iff, onAgg_iff, onTup_iff, onMpr_iff, onI_iff, onS_iff, onBox_iff, onList_iff, onMap_iff, onMapS_iff, onIter_iff]; repeat' split
     all_goals first | (simp_all; done) | grind)
def snK (x : AV) (K : Bool → Prop) [Tg K] : Prop := match x with
    | .nil _ => K true
    | .sl _ _ _ m => ∀ b : Bool, (0 < m → b = false) → K b
    | .iv (.lst _ xs) => ∀ b : Bool, (xs ≠ [] → b = false) → K b
    | _ => False
section
variable {K2 : Bool → Prop} {sz o n : Nat} {xs : List (List IV)}
@[simp] theorem snK_nil : snK (.nil sz) K2 ↔ K2 true := ⟨fun h => h, fun h => h⟩
@[simp] theorem snK_sl : snK (.sl id sz o n) K2 ↔ ∀ b : Bool, (0 < n → b = false) → K2 b := ⟨fun h => h, fun h => h⟩
@[simp] theorem snK_lst : snK (.iv (.lst sz xs)) K2 ↔ ∀ b : Bool, (xs ≠ [] → b = false) → K2 b := ⟨fun h => h, fun h => h⟩
@[simp] theorem stp_snil {neg : Bool} : stp P d s K (.snil neg x) ↔ snK (s.ev x) fun b => K s (.iv (.v (.bool (if neg then !b else b)))) := by
  first
  | exact ⟨fun h => h, fun h => h⟩
  | (simp only [stp, snK, onB_iff, onV_iff, onT_iff, onAgg_iff, onTup_iff, onMpr_iff, onI_iff, onS_iff, onBox_iff, onList_iff, onMap_iff, onMapS_iff, onIter_iff]; repeat' split
     all_goals first | (simp_all; done) | grind)
end
section
variable {sz bytes : Nat} {z : List AV} {l c m k : Operand} {sk : Sk} {ok : Bool}
def mksC (s : St) (d sz bytes : Nat) (z : List AV) (m q : Int) (K : St → AV → Prop) [Tg K] : Option Nat → Prop
  | some sz' => 0 ≤ m ∧ q = m ∧ m < 2 ^ 62 ∧ (bytes : Int) * m ≤ 2 ^ 47 ∧ sz = 1 ∧ K ((s.drop d).add d (.listo sz' (List.replicate m.toNat []) none)) (.sl d 1 0 m.toNat)
  | none => onS (allO AV.iv? z) fun zi => 0 ≤ m ∧ q = m ∧ m < 2 ^ 62 ∧ (bytes : Int) * m ≤ 2 ^ 47 ∧ K ((s.drop d).add d (.list sz (List.replicate m.toNat zi))) (.sl d sz 0 m.toNat)
@[simp] theorem nilOf_nil {sz : Nat} : nilOf [.nil sz] = some sz := rfl
@[simp] theorem nilOf_iv {x : IV} {r : List AV} : nilOf (.iv x :: r) = none := by cases r <;> rfl
@[simp] theorem nilOf_two {x y : AV} {r : List AV} : nilOf (x :: y :: r) = none := by cases x <;> rfl
@[simp] theorem mksC_some {sz' : Nat} {m q : Int} : mksC s d sz bytes z m q K (some sz') ↔ 0 ≤ m ∧ q = m ∧ m < 2 ^ 62 ∧ (bytes : Int) * m ≤ 2 ^ 47 ∧ sz = 1 ∧ K ((s.drop d).add d (.listo sz' (List.replicate m.toNat []) none)) (.sl d 1 0 m.toNat) := ⟨fun h => h, fun h => h⟩
@[simp] theorem mksC_none {m q : Int} : mksC s d sz bytes z m q K none ↔ onS (allO AV.iv? z) fun zi => 0 ≤ m ∧ q = m ∧ m < 2 ^ 62 ∧ (bytes : Int) * m ≤ 2 ^ 47 ∧ K ((s.drop d).add d (.list sz (List.replicate m.toNat zi))) (.sl d sz 0 m.toNat) := ⟨fun h => h, fun h => h⟩
@[simp] theorem stp_mks : stp P d s K (.mks sz bytes z l c) ↔ onI (s.ev l) fun m => onI (s.ev c) fun q => mksC s d sz bytes z m q K (nilOf z) := by
  cases hz : nilOf z with
  | some sz' => simp only [stp, hz, mksC_some, onI_iff]; repeat' split
                all_goals first | (simp_all; done) | grind
  | none => simp only [stp, hz, mksC_none, mapM_allO, onI_iff, onS_iff]; repeat' split
            all_goals first | (simp_all; done) | grind
def cpyK (s : St) (sz : Nat) (K : St → AV → Prop) [Tg K] : Option (Nat × List (List IV)) → AV → Prop
  | some (sz2, ys), .sl id sz' lo m => onList (look s.hp id) fun sz3 xs => (xs ≠ [] ∧ lo = 0) ∧ (sz' = sz ∧ sz3 = sz ∧ sz2 = sz) ∧ m = xs.length ∧ ys.length = m ∧ K (s.add id (.list sz ys)) (.iv (.v (.int .i64 m)))
  | _, _ => False
@[simp] theorem cpyK_s {sz sz2 id sz' lo m : Nat} {ys : List (List IV)} : cpyK s sz K (some (sz2, ys)) (.sl id sz' lo m) ↔ onList (look s.hp id) fun sz3 xs => (xs ≠ [] ∧ lo = 0) ∧ (sz' = sz ∧ sz3 = sz ∧ sz2 = sz) ∧ m = xs.length ∧ ys.length = m ∧ K (s.add id (.list sz ys)) (.iv (.v (.int .i64 m))) := Iff.rfl
@[simp] theorem stp_cpy {sz : Nat} : stp P d s K (.cpy sz x y) ↔ cpyK s sz K (s.elems (s.ev y)) (s.ev x) := by
  simp only [stp]
  generalize s.ev x = ax
  generalize s.elems (s.ev y) = e
  cases e with
  | none => cases ax <;> exact Iff.rfl
  | some p => obtain ⟨sz2, ys⟩ := p; cases ax with
    | sl id sz' lo m =>
      simp only [cpyK_s, onList_iff]
      repeat' split
      all_goals first | (simp_all; done) | grind
    | _ => exact Iff.rfl
@[simp] theorem stp_mkmap : stp P d s K (.mkmap sk) ↔ K ((s.drop d).add d (.map sk fun _ => none)) (.mpr d) := ⟨fun h => h, fun h => h⟩
@[simp] theorem stp_mdel : stp P d s K (.mdel sk m k) ↔ onMpr (s.ev m) fun id => onS (keyAV (s.ev k)) fun kk => onMap (look s.hp id) fun sk1 g => sk1 = sk ∧ kk.1 = (sk.1, sk.2.1) ∧ K (s.add id (.map sk (gset g kk.2 none))) (.tup []) := by
  first
  | exact ⟨fun h => h, fun h => h⟩
  | (simp only [stp, onB_iff, onV_iff, onT_iff, onAgg_iff, onTup_iff, onMpr_iff, onI_iff, onS_iff, onBox_iff, onList_iff, onMap_iff, onMapS_iff, onIter_iff]; repeat' split
     all_goals first | (simp_all; done) | grind)
@[simp] theorem stp_lenm : stp P d s K (.lenm x) ↔ onS (s.mapOf (s.ev x)) fun p => ∀ n : Nat, (n = 0 ↔ ∀ k, p.2 k = none) → K s (.iv (.v (.int .i64 n))) := by
  first
  | exact ⟨fun h => h, fun h => h⟩
  | (simp only [stp, onB_iff, onV_iff, onT_iff, onAgg_iff, onTup_iff, onMpr_iff, onI_iff, onS_iff, onBox_iff, onList_iff, onMap_iff, onMapS_iff, onIter_iff]; repeat' split
     all_goals first | (simp_all; done) | grind)
@[simp] theorem stp_ment : stp P d s K (.ment sk z m k) ↔ onMpr (s.ev m) fun id => onS (keyAV (s.ev k)) fun kk => onS (allO AV.iv? z) fun zi => onMap (look s.hp id) fun sk1 g => sk1 = sk ∧ kk.1 = (sk.1, sk.2.1) ∧
    ∀ n : Int, K (s.add id (.mapS sk (gset g kk.2 (some ((g kk.2).getD zi))) n kk.2)) (.tup [packAV sk.2.2 (((g kk.2).getD zi).map .iv), .iv (.v (.int .i64 n))]) := by
  first
  | exact ⟨fun h => h, fun h => h⟩
  | (simp only [stp, onB_iff, onV_iff, onT_iff, onAgg_iff, onTup_iff, onMpr_iff, onI_iff, onS_iff, onBox_iff, onList_iff, onMap_iff, onMapS_iff, onIter_iff]; repeat' split
     all_goals first | (simp_all; done) | grind)
@[simp] theorem stp_est : stp P d s K (.est m k x) ↔ onMpr ((s.frz [s.ev x]).ev m) fun id => onI ((s.frz [s.ev x]).ev k) fun n' => onS (((s.frz [s.ev x]).ev x).cellsOf.bind fun cs => allO AV.iv? cs) fun c =>
    onMapS (look (s.frz [s.ev x]).hp id) fun sk g n kk => n' = n ∧ isAggAV ((s.frz [s.ev x]).ev x) = sk.2.2 ∧ K ((s.frz [s.ev x]).add id (.map sk (gset g kk (some c)))) .un := by
  first
  | exact ⟨fun h => h, fun h => h⟩
  | (simp only [stp, mapM_allO, onB_iff, onV_iff, onT_iff, onAgg_iff, onTup_iff, onMpr_iff, onI_iff, onS_iff, onBox_iff, onList_iff, onMap_iff, onMapS_iff, onIter_iff]; repeat' split
     all_goals first | (simp_all; done) | grind)
def onMp (x : AV) (K : Sk → (List Value → Option (List IV)) → Prop) [Tg K] : Prop := match x with | .iv (.mp sk g) => K sk g | _ => False
@[simp] theorem onMp_m {g} {K : Sk → (List Value → Option (List IV)) → Prop} : onMp (.iv (.mp sk g)) K ↔ K sk g := ⟨fun h => h, fun h => h⟩
@[simp] theorem stp_rng : stp P d s K (.rng sk x) ↔ onMp (((s.frz [s.ev x]).drop d).ev x) fun sk' g => sk' = sk ∧
    ∀ L : List (List Value), L.Nodup → (∀ k, k ∈ L ↔ g k ≠ none) → (∀ k ∈ L, k.mapM kdOf = some sk.2.1) → K (((s.frz [s.ev x]).drop d).add d (.iter sk g L none)) (.ptr d 0) := by
  first
  | exact ⟨fun h => h, fun h => h⟩
  | (simp only [stp, onMp, onB_iff, onV_iff, onT_iff, onAgg_iff, onTup_iff, onMpr_iff, onI_iff, onS_iff, onBox_iff, onList_iff, onMap_iff, onMapS_iff, onIter_iff]; repeat' split
     all_goals first | (simp_all; done) | grind)
def onP0 (x : AV) (K : Nat → Prop) [Tg K] : Prop := match x with | .ptr id 0 => K id | _ => False
@[simp] theorem onP0_p {K : Nat → Prop} : onP0 (.ptr id 0) K ↔ K id := ⟨fun h => h, fun h => h⟩
@[simp] theorem stp_nxt : stp P d s K (.nxt x) ↔ onP0 (s.ev x) fun id => onIter (look s.hp id) fun sk g left _ => (left = [] → K s (.tup [.iv (.v (.bool false))])) ∧
          ∀ k c, k ∈ left → g k = some c → k.mapM kdOf = some sk.2.1 → K (s.add id (.iter sk g (rmk k left) (some k))) (.tup [vtrue, packAV sk.1 (k.map fun v => .iv (.v v)), packAV sk.2.2 (c.map .iv)]) := by
  first
  | exact ⟨fun h => h, fun h => h⟩
  | (simp only [stp, onP0, onB_iff, onV_iff, onT_iff, onAgg_iff, onTup_iff, onMpr_iff, onI_iff, onS_iff, onBox_iff, onList_iff, onMap_iff, onMapS_iff, onIter_iff]; repeat' split
     all_goals first | (simp_all; done) | grind)
@[simp] theorem stp_ent : stp P d s K (.ent x) ↔ onP0 (s.ev x) fun id => onIter (look s.hp id) fun sk g _ last => onS last fun k => ∀ c, g k = some c → K s (.tup [packAV sk.1 (k.map fun v => .iv (.v v)), packAV sk.2.2 (c.map .iv)]) := by
  simp only [stp]
  split
  · rename_i i e
    rw [e]
    simp only [onP0]
    cases hl : look s.hp i with
    | none => simp [onIter]
    | some o => cases o with
      | iter sk g left last => cases last <;> simp [onIter]
      | _ => simp [onIter]
  · rename_i hn
    refine ⟨fun h => h.elim, fun h => ?_⟩
    unfold onP0 at h
    split at h
    · rename_i e; exact (hn _ e).elim
    · exact h
end
end
section
variable {n r : St → Prop} {x g : Nat → St → Prop} {s : St} {i : Nat}
theorem outs_n : Outs.n ⟨n, x, r, g⟩ s ↔ n s := ⟨fun h => h, fun h => h⟩
theorem outs_x : Outs.x ⟨n, x, r, g⟩ i s ↔ x i s := ⟨fun h => h, fun h => h⟩
theorem outs_r : Outs.r ⟨n, x, r, g⟩ s ↔ r s := ⟨fun h => h, fun h => h⟩
theorem outs_g : Outs.g ⟨n, x, r, g⟩ i s ↔ g i s := ⟨fun h => h, fun h => h⟩
end
attribute [simp ↓] outs_n outs_x outs_r outs_g
attribute [simp ↓] onB_b onG_b onG_un onD_t onD_f onH_tt onH_tf onH_ft onH_ff onH_un onV_v onI_i onT_t onS_s onS_n onAgg_a onTup_t onBox_b onList_l onMap_m onMapS_m onIter_i onMpr_m vops_nil vops_cons vtree_done vtree_op vtree_alt vop1_n vop1_g wpV_skip wpV_reg wpV_any wpV_seq wpV_cond wpV_block wpV_loop wpV_exit wpV_ret wpV_goto wpV_scope wpV_scopeL stp_mov stp_nils stp_pick stp_alloc stp_box stp_build stp_lit ldN_ptr ldN_ep ldN_pt stp_ld ldS_ptr ldS_ep ldS_pt stp_lds stC_ptr stC_ep stp_st chkK_ptr chkK_ep chkK_pt stp_chk stp_bin stp_beq peqV_1 peqV_2 peqV_3 peqV_4 peqV_5 stp_peq stp_eqs stp_un stp_cvt cutK_lst cutK_sl cutK_nil stp_cut faK_ptr faK_ep faK_pt stp_fa stp_fld stp_flds iaK_lst iaK_sl stp_ia stp_is stp_ext lenK_lst lenK_sl lenK_nil stp_len stp_lens appK_sl appK_nil stp_app stp_mm stp_mkfn stp_call callF_fn stp_callv snK_nil snK_sl snK_lst stp_snil stp_mks stp_mkmap stp_mdel stp_lenm stp_ment stp_est onMp_m stp_rng onP0_p stp_nxt stp_ent
attribute [simp ↓ low] onD_b onH_t onH_f
end Go.Vm
end

/- Rules for maps of slices, and for what values are. No program in sight. -/
section
namespace Go.Vm
section
variable {P : Program} {d id off : Nat} {s : St} {K : St → AV → Prop} {x y m k : Operand} {sk : Sk} {z : List AV} {ok : Bool}
abbrev Mo := Nat × Sk × Nat × (List Value → Option (List (List IV))) × Option (List Value)
def onZ (z : List AV) (K : Nat → Prop) [Tg K] : Prop := match z with | [.nil sz] => K sz | _ => False
@[simp] theorem onZ_n {sz : Nat} {K : Nat → Prop} : onZ [.nil sz] K ↔ K sz := ⟨fun h => h, fun h => h⟩
theorem onZ_iff {z : List AV} {K : Nat → Prop} : onZ z K ↔ ∃ sz, z = [.nil sz] ∧ K sz := by
  unfold onZ; split <;> simp_all
def lkpK (d : Nat) (s : St) (sk : Sk) (z : List AV) (m k : Operand) (ok : Bool) (K : St → AV → Prop) [Tg K] : Option Mo → Prop
  | none => onS (s.mapOf (s.ev m)) fun p => onS (keyAV (s.ev k)) fun q => p.1 = sk ∧ q.1 = (sk.1, sk.2.1) ∧ K s (lkR z sk.2.2 ok (p.2 q.2))
  | some (id, sk1, sz, g, hole) => onS (keyAV ((s.drop d).ev k)) fun q => onZ z fun sz' => ok = false ∧ sk1 = sk ∧ q.1 = (sk.1, sk.2.1) ∧ sz' = sz ∧ hole = none ∧
      (g q.2 = none → K (s.drop d) (.nil sz)) ∧ ∀ xs, g q.2 = some xs → K (((s.drop d).add id (.mapo sk sz (gset g q.2 none) (some q.2))).add d (.lent id sz xs)) (.sl d sz 0 xs.length)
@[simp] theorem lkpK_n : lkpK d s sk z m k ok K none ↔ onS (s.mapOf (s.ev m)) fun p => onS (keyAV (s.ev k)) fun q => p.1 = sk ∧ q.1 = (sk.1, sk.2.1) ∧ K s (lkR z sk.2.2 ok (p.2 q.2)) := ⟨fun h => h, fun h => h⟩
@[simp] theorem lkpK_s {sk1 sz g hole} : lkpK d s sk z m k ok K (some (id, sk1, sz, g, hole)) ↔ onS (keyAV ((s.drop d).ev k)) fun q => onZ z fun sz' => ok = false ∧ sk1 = sk ∧ q.1 = (sk.1, sk.2.1) ∧ sz' = sz ∧ hole = none ∧
      (g q.2 = none → K (s.drop d) (.nil sz)) ∧ ∀ xs, g q.2 = some xs → K (((s.drop d).add id (.mapo sk sz (gset g q.2 none) (some q.2))).add d (.lent id sz xs)) (.sl d sz 0 xs.length) := ⟨fun h => h, fun h => h⟩
@[simp] theorem stp_lkp : stp P d s K (.lkp sk z m k ok) ↔ lkpK d s sk z m k ok K ((s.drop d).moOf ((s.drop d).ev m)) := by
  simp only [stp]
  split
  · rename_i id sk1 sz g hole e
    rw [e]
    simp only [lkpK_s]
    split
    · rename_i sk2 kk sz' e2
      rw [e2]
      simp only [onS_s, onZ_n]
      cases hg : g kk <;> simp
    · rename_i hn
      refine ⟨fun h => h.elim, fun h => ?_⟩
      obtain ⟨q, e2, h⟩ := onS_iff.1 h
      obtain ⟨sz', e3, h⟩ := onZ_iff.1 h
      exact hn _ _ _ e2 e3
  · rename_i e
    rw [e]
    simp only [lkpK_n]
    split
    · rename_i e1 e2; rw [e1, e2]; exact ⟨fun h => h, fun h => h⟩
    · rename_i hn
      refine ⟨fun h => h.elim, fun h => ?_⟩
      obtain ⟨q, e2, h⟩ := onS_iff.1 h
      obtain ⟨p, e3, h⟩ := onS_iff.1 h
      exact hn _ _ _ _ e2 e3
def onSl (x : AV) (K : Nat → Nat → Nat → Prop) [Tg K] : Prop := match x with | .sl id sz 0 len => K id sz len | _ => False
@[simp] theorem onSl_s {sz len : Nat} {K : Nat → Nat → Nat → Prop} : onSl (.sl id sz 0 len) K ↔ K id sz len := ⟨fun h => h, fun h => h⟩
theorem onSl_iff {x : AV} {K : Nat → Nat → Nat → Prop} : onSl x K ↔ ∃ id sz len, x = .sl id sz 0 len ∧ K id sz len := by
  unfold onSl
  split
  · exact ⟨fun h => ⟨_, _, _, rfl, h⟩, fun ⟨_, _, _, e, h⟩ => by cases e; exact h⟩
  · rename_i hn; exact ⟨fun h => h.elim, fun ⟨_, _, _, e, h⟩ => (hn _ _ _ e).elim⟩
def msetK (s : St) (sk : Sk) (m k x : Operand) (K : St → AV → Prop) [Tg K] : Option Mo → Prop
  | none => onMpr ((s.frz [s.ev x]).ev m) fun id => onS (keyAV ((s.frz [s.ev x]).ev k)) fun q => onS (((s.frz [s.ev x]).ev x).cellsOf.bind fun cs => allO AV.iv? cs) fun c => onMap (look (s.frz [s.ev x]).hp id) fun sk1 g =>
      sk1 = sk ∧ q.1 = (sk.1, sk.2.1) ∧ isAggAV ((s.frz [s.ev x]).ev x) = sk.2.2 ∧ K ((s.frz [s.ev x]).add id (.map sk (gset g q.2 (some c)))) .un
  | some (id, sk1, sz, g, hole) => onS (keyAV (s.ev k)) fun q => onSl (s.ev x) fun d' sz' len => onS (look s.hp d') fun o => onS o.els fun xs =>
      sk1 = sk ∧ q.1 = (sk.1, sk.2.1) ∧ sz' = sz ∧ d' < 1000 ∧ d' ≠ id ∧ len = xs.2.length ∧ (o.org? = none ∨ o.org? = some id) ∧
            (hole = some q.2 ∨ (hole = none ∧ g q.2 = none)) ∧ K ((s.kill d').add id (.mapo sk sz (gset g q.2 (some xs.2)) none)) .un
@[simp] theorem msetK_n : msetK s sk m k x K none ↔ onMpr ((s.frz [s.ev x]).ev m) fun id => onS (keyAV ((s.frz [s.ev x]).ev k)) fun q => onS (((s.frz [s.ev x]).ev x).cellsOf.bind fun cs => allO AV.iv? cs) fun c => onMap (look (s.frz [s.ev x]).hp id) fun sk1 g =>
      sk1 = sk ∧ q.1 = (sk.1, sk.2.1) ∧ isAggAV ((s.frz [s.ev x]).ev x) = sk.2.2 ∧ K ((s.frz [s.ev x]).add id (.map sk (gset g q.2 (some c)))) .un := ⟨fun h => h, fun h => h⟩
@[simp] theorem msetK_s {sk1 sz g hole} : msetK s sk m k x K (some (id, sk1, sz, g, hole)) ↔ onS (keyAV (s.ev k)) fun q => onSl (s.ev x) fun d' sz' len => onS (look s.hp d') fun o => onS o.els fun xs =>
      sk1 = sk ∧ q.1 = (sk.1, sk.2.1) ∧ sz' = sz ∧ d' < 1000 ∧ d' ≠ id ∧ len = xs.2.length ∧ (o.org? = none ∨ o.org? = some id) ∧
            (hole = some q.2 ∨ (hole = none ∧ g q.2 = none)) ∧ K ((s.kill d').add id (.mapo sk sz (gset g q.2 (some xs.2)) none)) .un := ⟨fun h => h, fun h => h⟩
@[simp] theorem stp_mset : stp P d s K (.mset sk m k x) ↔ msetK s sk m k x K (s.moOf (s.ev m)) := by
  simp only [stp]
  split
  · rename_i id sk1 sz g hole e
    rw [e]
    simp only [msetK_s]
    split
    · rename_i sk2 kk d' sz' len e1 e2
      rw [e1, e2]
      simp only [onS_s, onSl_s]
      cases look s.hp d' with
      | none => simp
      | some o =>
        simp only [onS_s]
        cases o.els with
        | none => simp
        | some p => obtain ⟨_, xs⟩ := p; simp
    · rename_i hn
      refine ⟨fun h => h.elim, fun h => ?_⟩
      obtain ⟨q, e2, h⟩ := onS_iff.1 h
      obtain ⟨_, _, _, e3, h⟩ := onSl_iff.1 h
      exact hn _ _ _ _ _ e2 e3
  · rename_i e
    rw [e]
    simp only [msetK_n, mapM_allO]
    split
    · rename_i id sk2 kk c e1 e2 e3
      rw [e1, e2, e3]
      simp only [onMpr_m, onS_s]
      split
      · rename_i sk1 g e4; rw [e4]; simp
      · rename_i hn
        refine ⟨fun h => h.elim, fun h => ?_⟩
        obtain ⟨_, _, e4, h⟩ := onMap_iff.1 h
        exact hn _ _ e4
    · rename_i hn
      refine ⟨fun h => h.elim, fun h => ?_⟩
      obtain ⟨id, e1, h⟩ := onMpr_iff.1 h
      obtain ⟨q, e2, h⟩ := onS_iff.1 h
      obtain ⟨c, e3, h⟩ := onS_iff.1 h
      exact hn _ _ _ _ e1 e2 e3
end
/- values -/
section
variable {id sz lo len i off : Nat} {x : IV} {cs : List AV} {f : FuncId} {a b : List CapV} {s : St}
@[simp] theorem cellsOf_agg : AV.cellsOf (.agg cs) = some cs := rfl
@[simp] theorem cellsOf_iv : AV.cellsOf (.iv x) = some [.iv x] := rfl
@[simp] theorem cellsOf_nil : AV.cellsOf (.nil sz) = some [.nil sz] := rfl
@[simp] theorem cellsOf_sl : AV.cellsOf (.sl id sz lo len) = some [.sl id sz lo len] := rfl
@[simp] theorem cellsOf_ptr : AV.cellsOf (.ptr id off) = some [.ptr id off] := rfl
@[simp] theorem cellsOf_ep : AV.cellsOf (.ep id sz i off) = some [.ep id sz i off] := rfl
@[simp] theorem cellsOf_mpr : AV.cellsOf (.mpr id) = some [.mpr id] := rfl
@[simp] theorem cellsOf_fn : AV.cellsOf (.fn f a b) = some [.fn f a b] := rfl
@[simp] theorem one_iv : AV.one (.iv x) = true := rfl
@[simp] theorem one_nil : AV.one (.nil sz) = true := rfl
@[simp] theorem one_sl : AV.one (.sl id sz lo len) = true := rfl
@[simp] theorem one_ptr : AV.one (.ptr id off) = true := rfl
@[simp] theorem one_ep : AV.one (.ep id sz i off) = true := rfl
@[simp] theorem one_mpr : AV.one (.mpr id) = true := rfl
@[simp] theorem one_fn : AV.one (.fn f a b) = true := rfl
@[simp] theorem ivq_iv : AV.iv? (.iv x) = some x := rfl
@[simp] theorem ivq_nil : AV.iv? (.nil sz) = some (.lst sz []) := rfl
@[simp] theorem ivc_iv : AV.ivc (.iv x) = some x := rfl
@[simp] theorem ivc_nil : AV.ivc (.nil sz) = some (.lst sz []) := rfl
@[simp] theorem ivc_sl : AV.ivc (.sl id sz lo len) = none := rfl
@[simp] theorem ivc_ptr : AV.ivc (.ptr id off) = none := rfl
@[simp] theorem ivc_mpr : AV.ivc (.mpr id) = none := rfl
@[simp] theorem ivc_fn : AV.ivc (.fn f a b) = none := rfl
@[simp] theorem ivAll_nil : ivAll [] = some [] := rfl
@[simp] theorem ivAll_iv : ivAll (.iv x :: cs) = (ivAll cs).map fun l => x :: l := rfl
@[simp] theorem ivAll_ni : ivAll (.nil sz :: cs) = (ivAll cs).map fun l => .lst sz [] :: l := rfl
@[simp] theorem ivAll_sl : ivAll (.sl id sz lo len :: cs) = none := rfl
@[simp] theorem ivAll_mpr : ivAll (.mpr id :: cs) = none := rfl
@[simp] theorem ivAll_ptr : ivAll (.ptr id off :: cs) = none := rfl
@[simp] theorem ivAll_fn : ivAll (.fn f a b :: cs) = none := rfl
@[simp] theorem ivAll_ivs {l : List IV} : ivAll (l.map .iv) = some l := by
  induction l with
  | nil => rfl
  | cons x l ih => simp [ih]
@[simp] theorem allO_nil {α β : Type} {g : α → Option β} : allO g [] = some [] := rfl
@[simp] theorem allO_ivs {l : List IV} : allO AV.iv? (l.map .iv) = some l := by
  induction l with
  | nil => rfl
  | cons x l ih => simp [allO, ih]
@[simp] theorem allO_iv : allO AV.iv? (.iv x :: cs) = (allO AV.iv? cs).map fun l => x :: l := rfl
@[simp] theorem allO_niv : allO AV.iv? (.nil sz :: cs) = (allO AV.iv? cs).map fun l => .lst sz [] :: l := rfl
@[simp] theorem allO_cap_ptr : allO AV.cap (.ptr id off :: cs) = (allO AV.cap cs).map fun l => .ptr id off :: l := rfl
@[simp] theorem allO_cap_iv : allO AV.cap (.iv x :: cs) = (allO AV.cap cs).map fun l => .val x :: l := rfl
@[simp] theorem allO_cap_nil : allO AV.cap (.nil sz :: cs) = (allO AV.cap cs).map fun l => .val (.lst sz []) :: l := rfl
@[simp] theorem capav_ptr : CapV.av (.ptr id off) = .ptr id off := rfl
@[simp] theorem capav_val : CapV.av (.val x) = .iv x := rfl
@[simp] theorem isAgg_agg : isAggAV (.agg cs) = true := rfl
@[simp] theorem isAgg_iv : isAggAV (.iv x) = false := rfl
@[simp] theorem isAgg_nil : isAggAV (.nil sz) = false := rfl
@[simp] theorem pack_t : packAV true cs = .agg cs := rfl
@[simp] theorem pack_f {y : AV} : packAV false [y] = y := rfl
@[simp] theorem lkR_s {z : List AV} {ag ok : Bool} {c : List IV} : lkR z ag ok (some c) = if ok then .tup [packAV ag (c.map .iv), .iv (.v (.bool true))] else packAV ag (c.map .iv) := rfl
@[simp] theorem lkR_n {z : List AV} {ag ok : Bool} : lkR z ag ok none = if ok then .tup [packAV ag z, .iv (.v (.bool false))] else packAV ag z := rfl
@[simp] theorem kd_b {b : Bool} : kdOf (.bool b) = some .b := rfl
@[simp] theorem kd_i {k : IntKind} {n : Int} : kdOf (.int k n) = some (.i k) := rfl
@[simp] theorem kd_s {t : ByteArray} : kdOf (.string t) = some .s := rfl
@[simp] theorem keyAV_b {b : Bool} : keyAV (.iv (.v (.bool b))) = some ((false, [.b]), [.bool b]) := rfl
@[simp] theorem keyAV_i {k : IntKind} {n : Int} : keyAV (.iv (.v (.int k n))) = some ((false, [.i k]), [.int k n]) := rfl
@[simp] theorem keyAV_s {t : ByteArray} : keyAV (.iv (.v (.string t))) = some ((false, [.s]), [.string t]) := rfl
@[simp] theorem keyAV_agg : keyAV (.agg cs) = (allO keyCell cs).map fun l => ((true, l.map (·.1)), l.map (·.2)) := by simp [keyAV, mapM_allO]
@[simp] theorem allO_key_b {b : Bool} : allO keyCell (.iv (.v (.bool b)) :: cs) = (allO keyCell cs).map fun l => (.b, .bool b) :: l := rfl
@[simp] theorem allO_key_i {k : IntKind} {n : Int} : allO keyCell (.iv (.v (.int k n)) :: cs) = (allO keyCell cs).map fun l => (.i k, .int k n) :: l := rfl
@[simp] theorem allO_key_s {t : ByteArray} : allO keyCell (.iv (.v (.string t)) :: cs) = (allO keyCell cs).map fun l => (.s, .string t) :: l := rfl
theorem bytes_eq (a b : ByteArray) : (a == b) = decide (a = b) := by
  cases a with | mk x => cases b with | mk y =>
  rw [Bool.eq_iff_iff, decide_eq_true_eq, ByteArray.mk.injEq, ← beq_iff_eq (a := x) (b := y)]
  exact ⟨fun h => h, fun h => h⟩
@[simp] theorem eqCells_nil : eqCells [] [] [] = some true := rfl
@[simp] theorem eqCells_b {ks : List Kd} {a b : Bool} {r q : List AV} : eqCells (.b :: ks) (.iv (.v (.bool a)) :: r) (.iv (.v (.bool b)) :: q) = (eqCells ks r q).map fun y => (a == b) && y := rfl
@[simp] theorem eqCells_i {ks : List Kd} {k : IntKind} {a b : Int} {r q : List AV} : eqCells (.i k :: ks) (.iv (.v (.int .i64 a)) :: r) (.iv (.v (.int .i64 b)) :: q) = (eqCells ks r q).map fun y => (a == b) && y := rfl
@[simp] theorem eqCells_s {ks : List Kd} {a b : ByteArray} {r q : List AV} : eqCells (.s :: ks) (.iv (.v (.string a)) :: r) (.iv (.v (.string b)) :: q) = (eqCells ks r q).map fun y => decide (a = b) && y := by rw [← bytes_eq]; rfl
theorem strEq_iff {a b : ByteArray} : strEq a b = decide (a = b) := by
  unfold strEq
  rw [Bool.eq_iff_iff]
  simp only [beq_iff_eq, decide_eq_true_eq]
  constructor
  · intro h
    have e : a.data.toList = b.data.toList := by simpa [ByteArray.toList_eq] using h
    cases a; cases b
    simp only at e
    congr 1
    exact Array.toList_inj.1 e
  · rintro rfl; rfl
@[simp] theorem bin_add {k k' : IntKind} {m n : Int} : binV .add (.int .i64 m) (.int .i64 n) = some (.int .i64 (IntKind.i64.wrap (m + n))) := rfl
@[simp] theorem bin_sub {m n : Int} : binV .sub (.int .i64 m) (.int .i64 n) = some (.int .i64 (IntKind.i64.wrap (m - n))) := rfl
@[simp] theorem bin_mul {m n : Int} : binV .mul (.int .i64 m) (.int .i64 n) = some (.int .i64 (IntKind.i64.wrap (m * n))) := rfl
@[simp] theorem bin_rem {m n : Int} : binV .rem (.int .i64 m) (.int .i64 n) = if n = 0 then none else some (.int .i64 (m.tmod n)) := rfl
@[simp] theorem bin_and {m n : Int} : binV .and (.int .i64 m) (.int .i64 n) = some (.int .i64 (bits2 .and .i64 m n)) := rfl
@[simp] theorem bin_eql {k : IntKind} {m n : Int} : binV .eql (.int k m) (.int k n) = some (.bool (m == n)) := by simp [binV, binI]
@[simp] theorem bin_neq {k : IntKind} {m n : Int} : binV .neq (.int k m) (.int k n) = some (.bool (m != n)) := by simp [binV, binI]
@[simp] theorem bin_lss {k : IntKind} {m n : Int} : binV .lss (.int k m) (.int k n) = some (.bool (decide (m < n))) := by simp [binV, binI]
@[simp] theorem bin_leq {k : IntKind} {m n : Int} : binV .leq (.int k m) (.int k n) = some (.bool (decide (m ≤ n))) := by simp [binV, binI]
@[simp] theorem bin_gtr {k : IntKind} {m n : Int} : binV .gtr (.int k m) (.int k n) = some (.bool (decide (n < m))) := by simp [binV, binI]
@[simp] theorem bin_geq {k : IntKind} {m n : Int} : binV .geq (.int k m) (.int k n) = some (.bool (decide (n ≤ m))) := by simp [binV, binI]
@[simp] theorem bins_eql {m n : ByteArray} : binV .eql (.string m) (.string n) = some (.bool (decide (m = n))) := by rw [← strEq_iff]; rfl
@[simp] theorem bins_neq {m n : ByteArray} : binV .neq (.string m) (.string n) = some (.bool !(decide (m = n))) := by rw [← strEq_iff]; rfl
@[simp] theorem bins_lss {m n : ByteArray} : binV .lss (.string m) (.string n) = some (.bool (strLt m n)) := rfl
@[simp] theorem bins_leq {m n : ByteArray} : binV .leq (.string m) (.string n) = some (.bool (strLt m n || decide (m = n))) := by rw [← strEq_iff]; rfl
@[simp] theorem bins_gtr {m n : ByteArray} : binV .gtr (.string m) (.string n) = some (.bool !(strLt m n || decide (m = n))) := by rw [← strEq_iff]; rfl
@[simp] theorem un_not {b : Bool} : unV .not (.bool b) = some (.bool (!b)) := rfl
@[simp] theorem un_neg {n : Int} : unV .neg (.int .i64 n) = some (.int .i64 (IntKind.i64.wrap (0 - n))) := rfl
@[simp] theorem bound_n {d : Nat} : s.bound d none = some (d : Int) := rfl
def AV.int? : AV → Option Int
  | .iv (.v (.int _ n)) => some n
  | _ => none
@[simp] theorem int?_i {k : IntKind} {n : Int} : AV.int? (.iv (.v (.int k n))) = some n := rfl
@[simp] theorem bound_s {d : Nat} {x : Operand} : s.bound d (some x) = (s.ev x).int? := by
  simp only [St.bound]
  cases s.ev x with
  | iv x => cases x with
    | v u => cases u <;> rfl
    | _ => rfl
  | _ => rfl
@[simp] theorem ev_tmp {t : Nat} : s.ev (.tmp t) = s.get t := rfl
@[simp] theorem ev_b {b : Bool} : s.ev (.const (.bool b)) = .iv (.v (.bool b)) := rfl
@[simp] theorem ev_i {k : IntKind} {n : Int} : s.ev (.const (.int k n)) = .iv (.v (.int k n)) := rfl
@[simp] theorem ev_s {t : ByteArray} : s.ev (.const (.string t)) = .iv (.v (.string t)) := rfl
@[simp] theorem ev_f {f : FuncId} : s.ev (.func f) = .fn f [] [] := rfl
@[simp] theorem elems_iv {xs : List (List IV)} : s.elems (.iv (.lst sz xs)) = some (sz, xs) := rfl
@[simp] theorem elems_nil : s.elems (.nil sz) = some (sz, []) := rfl
@[simp] theorem elems_sl : s.elems (.sl id sz lo len) = ((look s.hp id).bind Ob.els).map fun p => (sz, (p.2.drop lo).take len) := by
  simp only [St.elems]
  cases look s.hp id with
  | none => rfl
  | some o => cases h : o.els <;> simp [h]
@[simp] theorem els_list {xs : List (List IV)} : Ob.els (.list sz xs) = some (sz, xs) := rfl
@[simp] theorem els_lent {xs : List (List IV)} : Ob.els (.lent id sz xs) = some (sz, xs) := rfl
@[simp] theorem setEls_list {z : Nat} {xs ys : List (List IV)} : Ob.setEls (.list z ys) sz xs = .list sz xs := rfl
@[simp] theorem setEls_lent {z : Nat} {xs ys : List (List IV)} : Ob.setEls (.lent id z ys) sz xs = .lent id sz xs := rfl
@[simp] theorem org_list {xs : List (List IV)} : Ob.org? (.list sz xs) = none := rfl
@[simp] theorem org_lent {xs : List (List IV)} : Ob.org? (.lent id sz xs) = some id := rfl
def moH (id : Nat) : Option Ob → Option Mo
  | some (.mapo sk sz g hole) => some (id, sk, sz, g, hole)
  | _ => none
def maH : Option Ob → Option (Sk × (List Value → Option (List IV)))
  | some (.map sk g) => some (sk, g)
  | some (.mapS sk g _ _) => some (sk, g)
  | _ => none
@[simp] theorem moH_mapo {sk g hole} : moH id (some (.mapo sk sz g hole)) = some (id, sk, sz, g, hole) := rfl
@[simp] theorem moH_map {sk g} : moH id (some (.map sk g)) = none := rfl
@[simp] theorem moH_mapS {sk g n k} : moH id (some (.mapS sk g n k)) = none := rfl
@[simp] theorem maH_map {sk g} : maH (some (.map sk g)) = some (sk, g) := rfl
@[simp] theorem maH_mapS {sk g n k} : maH (some (.mapS sk g n k)) = some (sk, g) := rfl
@[simp] theorem mapOf_mpr : s.mapOf (.mpr id) = maH (look s.hp id) := rfl
@[simp] theorem mapOf_mp {sk g} : s.mapOf (.iv (.mp sk g)) = some (sk, g) := rfl
@[simp] theorem moOf_mpr : s.moOf (.mpr id) = moH id (look s.hp id) := rfl
@[simp] theorem moOf_iv : s.moOf (.iv x) = none := rfl
@[simp] theorem ids_iv : AV.ids (.iv x) = [] := rfl
@[simp] theorem ids_nil : AV.ids (.nil sz) = [] := rfl
@[simp] theorem ids_un : AV.ids .un = [] := rfl
@[simp] theorem ids_ptr : AV.ids (.ptr id off) = [] := rfl
@[simp] theorem ids_fn : AV.ids (.fn f a b) = [] := rfl
@[simp] theorem ids_sl : AV.ids (.sl id sz lo len) = [id] := rfl
@[simp] theorem ids_mpr : AV.ids (.mpr id) = [id] := rfl
@[simp] theorem frz_nil : s.frz [] = s := rfl
@[simp] theorem frz_iv {l : List AV} : s.frz (.iv x :: l) = s.frz l := rfl
@[simp] theorem frz_ni {l : List AV} : s.frz (.nil sz :: l) = s.frz l := rfl
@[simp] theorem frz_ptr {l : List AV} : s.frz (.ptr id off :: l) = s.frz l := rfl
@[simp] theorem frz_fn {l : List AV} : s.frz (.fn f a b :: l) = s.frz l := rfl
@[simp] theorem frz_sl {l : List AV} : s.frz (.sl id sz lo len :: l) = (if id < 1000 then s.drop id else s).frz l := rfl
@[simp] theorem frz_mpr {l : List AV} : s.frz (.mpr id :: l) = (if id < 1000 then s.drop id else s).frz l := rfl
@[simp] theorem frz_ivs {l : List IV} {r : List AV} : s.frz (.agg (l.map .iv) :: r) = s.frz r := by
  have : AV.ids (.agg (l.map .iv)) = [] := by
    simp only [AV.ids]
    induction l with
    | nil => rfl
    | cons x l ih => simp [ih]
  simp [St.frz, this]
@[simp] theorem frz_agg_nil {r : List AV} : s.frz (.agg [] :: r) = s.frz r := rfl
@[simp] theorem frz_agg_iv {l r : List AV} : s.frz (.agg (.iv x :: l) :: r) = s.frz (.agg l :: r) := rfl
@[simp] theorem frz_agg_ni {l r : List AV} : s.frz (.agg (.nil sz :: l) :: r) = s.frz (.agg l :: r) := rfl
@[simp] theorem frz_agg_fn {l r : List AV} : s.frz (.agg (.fn f a b :: l) :: r) = s.frz (.agg l :: r) := rfl
@[simp] theorem frz_agg_sl {l r : List AV} : s.frz (.agg (.sl id sz lo len :: l) :: r) = (if id < 1000 then s.drop id else s).frz (.agg l :: r) := rfl
@[simp] theorem look_n {α : Type} {k : Nat} : look ([] : List (Nat × α)) k = none := rfl
@[simp] theorem look_c {α : Type} {j k : Nat} {y : α} {r : List (Nat × α)} : look ((j, y) :: r) k = if j = k then some y else look r k := rfl
@[simp] theorem fillA_nil {z : List AV} : fillA s z [] = some z := rfl
@[simp] theorem litA_nil : litA s sz [] = some [] := rfl
@[simp] theorem mm_i {mx : Bool} {k : IntKind} {n : Int} {r : List AV} : minmax mx (.iv (.v (.int k n)) :: r) = mmFrom mx k n r := rfl
@[simp] theorem mmf_nil {mx : Bool} {k : IntKind} {n : Int} : mmFrom mx k n [] = some (k, n) := rfl
@[simp] theorem mmf_i {mx : Bool} {k j : IntKind} {n m : Int} {r : List AV} : mmFrom mx k n (.iv (.v (.int j m)) :: r) = mmFrom mx k (if mx then max n m else min n m) r := rfl
@[simp] theorem kc_iv {p : Nat → Bool} : AV.kc p (.iv x) = .iv x := rfl
@[simp] theorem kc_nil {p : Nat → Bool} : AV.kc p (.nil sz) = .nil sz := rfl
@[simp] theorem kc_un {p : Nat → Bool} : AV.kc p .un = .un := rfl
@[simp] theorem kc_junk {p : Nat → Bool} : AV.kc p .junk = .junk := rfl
@[simp] theorem kc_ptr {p : Nat → Bool} : AV.kc p (.ptr id off) = if p id then .junk else .ptr id off := rfl
@[simp] theorem kc_sl {p : Nat → Bool} : AV.kc p (.sl id sz lo len) = if p id then .junk else .sl id sz lo len := rfl
@[simp] theorem kc_ep {p : Nat → Bool} : AV.kc p (.ep id sz i off) = if p id then .junk else .ep id sz i off := rfl
@[simp] theorem kc_mpr {p : Nat → Bool} : AV.kc p (.mpr id) = if p id then .junk else .mpr id := rfl
@[simp] theorem kc_fn {p : Nat → Bool} : AV.kc p (.fn f a b) = if a.any (CapV.of p) || b.any (CapV.of p) then .junk else .fn f a b := rfl
@[simp] theorem kc_aggj {p : Nat → Bool} : AV.kc p (.agg cs) = .junk := rfl
@[simp] theorem kc_tupj {p : Nat → Bool} : AV.kc p (.tup cs) = .junk := rfl
@[simp] theorem cof_ptr {p : Nat → Bool} : CapV.of p (.ptr id off) = p id := rfl
@[simp] theorem cof_val {p : Nat → Bool} : CapV.of p (.val x) = false := rfl
@[simp] theorem mapc_iv {g : AV → AV} : AV.mapc g (.iv x) = g (.iv x) := rfl
@[simp] theorem mapc_ni {g : AV → AV} : AV.mapc g (.nil sz) = g (.nil sz) := rfl
@[simp] theorem mapc_un {g : AV → AV} : AV.mapc g .un = g .un := rfl
@[simp] theorem mapc_junk {g : AV → AV} : AV.mapc g .junk = g .junk := rfl
@[simp] theorem mapc_ptr {g : AV → AV} : AV.mapc g (.ptr id off) = g (.ptr id off) := rfl
@[simp] theorem mapc_sl {g : AV → AV} : AV.mapc g (.sl id sz lo len) = g (.sl id sz lo len) := rfl
@[simp] theorem mapc_ep {g : AV → AV} : AV.mapc g (.ep id sz i off) = g (.ep id sz i off) := rfl
@[simp] theorem mapc_mpr {g : AV → AV} : AV.mapc g (.mpr id) = g (.mpr id) := rfl
@[simp] theorem mapc_fn {g : AV → AV} : AV.mapc g (.fn f a b) = g (.fn f a b) := rfl
@[simp] theorem mapc_agg {g : AV → AV} : AV.mapc g (.agg cs) = .agg (cs.map g) := rfl
@[simp] theorem mapc_tup {g : AV → AV} : AV.mapc g (.tup cs) = .tup (cs.map (AV.map1 g)) := rfl
@[simp] theorem map1_iv {g : AV → AV} : AV.map1 g (.iv x) = g (.iv x) := rfl
@[simp] theorem map1_agg {g : AV → AV} : AV.map1 g (.agg cs) = .agg (cs.map g) := rfl
@[simp] theorem omapc_box {g : AV → AV} : Ob.mapc g (.box cs) = .box (cs.map g) := rfl
@[simp] theorem omapc_list {g : AV → AV} {xs : List (List IV)} : Ob.mapc g (.list sz xs) = .list sz xs := rfl
@[simp] theorem omapc_lent {g : AV → AV} {xs : List (List IV)} : Ob.mapc g (.lent id sz xs) = .lent id sz xs := rfl
@[simp] theorem omapc_map {g : AV → AV} {sk h} : Ob.mapc g (.map sk h) = .map sk h := rfl
@[simp] theorem omapc_mapS {g : AV → AV} {sk h n k} : Ob.mapc g (.mapS sk h n k) = .mapS sk h n k := rfl
@[simp] theorem omapc_mapo {g : AV → AV} {sk h k} : Ob.mapc g (.mapo sk sz h k) = .mapo sk sz h k := rfl
@[simp] theorem omapc_iter {g : AV → AV} {sk h l k} : Ob.mapc g (.iter sk h l k) = .iter sk h l k := rfl
end
def gone (id : Nat) (o : Ob) (x : AV) : AV := (x.fc id o).kc (· == id)
def goneP (off : Nat) : Option (List IV) → AV
  | some l => .iv (.pt (l.drop off))
  | none => .junk
def gonF (id : Nat) (o : Ob) : List (Nat × AV) → List (Nat × AV)
  | [] => []
  | (t, x) :: r => (t, x.mapc (gone id o)) :: gonF id o r
def gonH (id : Nat) (o : Ob) : Hp → Hp
  | [] => []
  | (j, q) :: r => if j = id then gonH id o r else (j, q.mapc (gone id o)) :: gonH id o r
def dropH (id : Nat) (fr : List (Nat × AV)) (hp : Hp) : Option Ob → St
  | none => ⟨fr, hp⟩
  | some o => ⟨gonF id o fr, gonH id o hp⟩
section
variable {id : Nat} {o : Ob}
@[simp] theorem goneP_s {off : Nat} {l : List IV} : goneP off (some l) = .iv (.pt (l.drop off)) := rfl
@[simp] theorem goneP_n {off : Nat} : goneP off none = .junk := rfl
@[simp] theorem gonF_nil : gonF id o [] = [] := rfl
@[simp] theorem gonF_cons {t : Nat} {x : AV} {r : List (Nat × AV)} : gonF id o ((t, x) :: r) = (t, x.mapc (gone id o)) :: gonF id o r := rfl
@[simp] theorem gonH_nil : gonH id o [] = [] := rfl
@[simp] theorem gonH_cons {j : Nat} {q : Ob} {r : Hp} : gonH id o ((j, q) :: r) = if j = id then gonH id o r else (j, q.mapc (gone id o)) :: gonH id o r := rfl
@[simp] theorem dropH_n {fr : List (Nat × AV)} {hp : Hp} : dropH id fr hp none = ⟨fr, hp⟩ := rfl
@[simp] theorem dropH_s {fr : List (Nat × AV)} {hp : Hp} : dropH id fr hp (some o) = ⟨gonF id o fr, gonH id o hp⟩ := rfl
theorem gonF_eq (fr : List (Nat × AV)) : gonF id o fr = fr.map fun (t, x) => (t, x.mapc fun x => (x.fc id o).kc (· == id)) := by
  induction fr with
  | nil => rfl
  | cons p r ih => obtain ⟨t, x⟩ := p; simp only [gonF, List.map_cons, ih]; rfl
theorem gonH_eq (hp : Hp) : gonH id o hp = (hp.map fun (t, x) => (t, x.mapc fun x => (x.fc id o).kc (· == id))).filter (·.1 != id) := by
  induction hp with
  | nil => rfl
  | cons p r ih =>
    obtain ⟨t, x⟩ := p
    simp only [gonH, List.map_cons, List.filter_cons, ih]
    by_cases h : t = id
    · simp [h]
    · simp [h]; rfl
@[simp] theorem drop_mk {fr : List (Nat × AV)} {hp : Hp} : St.drop id ⟨fr, hp⟩ = dropH id fr hp (look hp id) := by
  simp only [St.drop]
  cases look hp id with
  | none => rfl
  | some o => simp only [dropH, gonF_eq, gonH_eq]; rfl
@[simp] theorem gone_iv {x : IV} : gone id o (.iv x) = .iv x := rfl
@[simp] theorem gone_nil {sz : Nat} : gone id o (.nil sz) = .nil sz := rfl
@[simp] theorem gone_un : gone id o .un = .un := rfl
@[simp] theorem gone_junk : gone id o .junk = .junk := rfl
@[simp] theorem gone_fn {f : FuncId} {a b : List CapV} : gone id o (.fn f a b) = AV.kc (· == id) (.fn f (a.map (CapV.fc id o)) (b.map (CapV.fc id o))) := rfl
@[simp] theorem capfc_val {x : IV} : CapV.fc id o (.val x) = .val x := rfl
def capP (j off : Nat) : Option (List IV) → CapV
  | some l => .val (.pt (l.drop off))
  | none => .ptr j off
@[simp] theorem capP_s {j off : Nat} {l : List IV} : capP j off (some l) = .val (.pt (l.drop off)) := rfl
@[simp] theorem capP_n {j off : Nat} : capP j off none = .ptr j off := rfl
@[simp] theorem capfc_box {cs : List AV} {j off : Nat} : CapV.fc id (.box cs) (.ptr j off) = if j = id then capP j off (ivAll cs) else .ptr j off := by
  simp only [CapV.fc]; split
  · cases ivAll cs <;> rfl
  · rfl
@[simp] theorem gone_box_sl {cs : List AV} {j sz2 lo len : Nat} : gone id (.box cs) (.sl j sz2 lo len) = if j = id then .junk else .sl j sz2 lo len := by
  by_cases h : j = id <;> simp [gone, AV.fc, h]
@[simp] theorem gone_box_ep {cs : List AV} {j sz2 i off : Nat} : gone id (.box cs) (.ep j sz2 i off) = if j = id then .junk else .ep j sz2 i off := by
  by_cases h : j = id <;> simp [gone, AV.fc, h]
@[simp] theorem gone_box_mpr {cs : List AV} {j : Nat} : gone id (.box cs) (.mpr j) = if j = id then .junk else .mpr j := by
  by_cases h : j = id <;> simp [gone, AV.fc, h]
@[simp] theorem gone_box_ptr {cs : List AV} {j off : Nat} : gone id (.box cs) (.ptr j off) = if j = id then goneP off (ivAll cs) else .ptr j off := by
  by_cases h : j = id <;> simp [gone, AV.fc, h]
  cases ivAll cs <;> simp
@[simp] theorem capfc_list {sz : Nat} {xs : List (List IV)} {j off : Nat} : CapV.fc id (.list sz xs) (.ptr j off) = .ptr j off := by
  simp only [CapV.fc, ite_self]
@[simp] theorem gone_list_sl {sz : Nat} {xs : List (List IV)} {j sz2 lo len : Nat} : gone id (.list sz xs) (.sl j sz2 lo len) = if j = id then .iv (.lst sz2 ((xs.drop lo).take len)) else .sl j sz2 lo len := by
  by_cases h : j = id <;> simp [gone, AV.fc, h]
@[simp] theorem gone_list_ep {sz : Nat} {xs : List (List IV)} {j sz2 i off : Nat} : gone id (.list sz xs) (.ep j sz2 i off) = if j = id then .iv (.pt ((xs.getD i []).drop off)) else .ep j sz2 i off := by
  by_cases h : j = id <;> simp [gone, AV.fc, h]
@[simp] theorem gone_list_mpr {sz : Nat} {xs : List (List IV)} {j : Nat} : gone id (.list sz xs) (.mpr j) = if j = id then .junk else .mpr j := by
  by_cases h : j = id <;> simp [gone, AV.fc, h]
@[simp] theorem gone_list_ptr {sz : Nat} {xs : List (List IV)} {j off : Nat} : gone id (.list sz xs) (.ptr j off) = if j = id then .junk else .ptr j off := by
  by_cases h : j = id <;> simp [gone, AV.fc, h]
@[simp] theorem capfc_map {sk : Sk} {g : List Value → Option (List IV)} {j off : Nat} : CapV.fc id (.map sk g) (.ptr j off) = .ptr j off := by
  simp only [CapV.fc, ite_self]
attribute [simp] mapc_gh
@[simp] theorem gone_gh_sl {Z : GZ} {vs : List Value} {cs : List AV} {j sz2 lo len : Nat} : gone id (.gh Z vs cs) (.sl j sz2 lo len) = if j = id then .junk else .sl j sz2 lo len := by
  by_cases h : j = id <;> simp [gone, AV.fc, h]
@[simp] theorem gone_gh_ep {Z : GZ} {vs : List Value} {cs : List AV} {j sz2 i off : Nat} : gone id (.gh Z vs cs) (.ep j sz2 i off) = if j = id then .junk else .ep j sz2 i off := by
  by_cases h : j = id <;> simp [gone, AV.fc, h]
@[simp] theorem gone_gh_mpr {Z : GZ} {vs : List Value} {cs : List AV} {j : Nat} : gone id (.gh Z vs cs) (.mpr j) = if j = id then .junk else .mpr j := by
  by_cases h : j = id <;> simp [gone, AV.fc, h]
@[simp] theorem gone_gh_ptr {Z : GZ} {vs : List Value} {cs : List AV} {j off : Nat} : gone id (.gh Z vs cs) (.ptr j off) = if j = id then .junk else .ptr j off := by
  by_cases h : j = id <;> simp [gone, AV.fc, h]
@[simp] theorem gone_map_sl {sk : Sk} {g : List Value → Option (List IV)} {j sz2 lo len : Nat} : gone id (.map sk g) (.sl j sz2 lo len) = if j = id then .junk else .sl j sz2 lo len := by
  by_cases h : j = id <;> simp [gone, AV.fc, h]
@[simp] theorem gone_map_ep {sk : Sk} {g : List Value → Option (List IV)} {j sz2 i off : Nat} : gone id (.map sk g) (.ep j sz2 i off) = if j = id then .junk else .ep j sz2 i off := by
  by_cases h : j = id <;> simp [gone, AV.fc, h]
@[simp] theorem gone_map_mpr {sk : Sk} {g : List Value → Option (List IV)} {j : Nat} : gone id (.map sk g) (.mpr j) = if j = id then .iv (.mp sk g) else .mpr j := by
  by_cases h : j = id <;> simp [gone, AV.fc, h]
@[simp] theorem gone_map_ptr {sk : Sk} {g : List Value → Option (List IV)} {j off : Nat} : gone id (.map sk g) (.ptr j off) = if j = id then .junk else .ptr j off := by
  by_cases h : j = id <;> simp [gone, AV.fc, h]
@[simp] theorem capfc_mapS {sk : Sk} {g : List Value → Option (List IV)} {n : Int} {k : List Value} {j off : Nat} : CapV.fc id (.mapS sk g n k) (.ptr j off) = .ptr j off := by
  simp only [CapV.fc, ite_self]
@[simp] theorem gone_mapS_sl {sk : Sk} {g : List Value → Option (List IV)} {n : Int} {k : List Value} {j sz2 lo len : Nat} : gone id (.mapS sk g n k) (.sl j sz2 lo len) = if j = id then .junk else .sl j sz2 lo len := by
  by_cases h : j = id <;> simp [gone, AV.fc, h]
@[simp] theorem gone_mapS_ep {sk : Sk} {g : List Value → Option (List IV)} {n : Int} {k : List Value} {j sz2 i off : Nat} : gone id (.mapS sk g n k) (.ep j sz2 i off) = if j = id then .junk else .ep j sz2 i off := by
  by_cases h : j = id <;> simp [gone, AV.fc, h]
@[simp] theorem gone_mapS_mpr {sk : Sk} {g : List Value → Option (List IV)} {n : Int} {k : List Value} {j : Nat} : gone id (.mapS sk g n k) (.mpr j) = if j = id then .junk else .mpr j := by
  by_cases h : j = id <;> simp [gone, AV.fc, h]
@[simp] theorem gone_mapS_ptr {sk : Sk} {g : List Value → Option (List IV)} {n : Int} {k : List Value} {j off : Nat} : gone id (.mapS sk g n k) (.ptr j off) = if j = id then .junk else .ptr j off := by
  by_cases h : j = id <;> simp [gone, AV.fc, h]
@[simp] theorem capfc_lent {n sz : Nat} {xs : List (List IV)} {j off : Nat} : CapV.fc id (.lent n sz xs) (.ptr j off) = .ptr j off := by
  simp only [CapV.fc, ite_self]
@[simp] theorem gone_lent_sl {n sz : Nat} {xs : List (List IV)} {j sz2 lo len : Nat} : gone id (.lent n sz xs) (.sl j sz2 lo len) = if j = id then .junk else .sl j sz2 lo len := by
  by_cases h : j = id <;> simp [gone, AV.fc, h]
@[simp] theorem gone_lent_ep {n sz : Nat} {xs : List (List IV)} {j sz2 i off : Nat} : gone id (.lent n sz xs) (.ep j sz2 i off) = if j = id then .junk else .ep j sz2 i off := by
  by_cases h : j = id <;> simp [gone, AV.fc, h]
@[simp] theorem gone_lent_mpr {n sz : Nat} {xs : List (List IV)} {j : Nat} : gone id (.lent n sz xs) (.mpr j) = if j = id then .junk else .mpr j := by
  by_cases h : j = id <;> simp [gone, AV.fc, h]
@[simp] theorem gone_lent_ptr {n sz : Nat} {xs : List (List IV)} {j off : Nat} : gone id (.lent n sz xs) (.ptr j off) = if j = id then .junk else .ptr j off := by
  by_cases h : j = id <;> simp [gone, AV.fc, h]
@[simp] theorem capfc_mapo {sk : Sk} {sz : Nat} {h : List Value → Option (List (List IV))} {hole : Option (List Value)} {j off : Nat} : CapV.fc id (.mapo sk sz h hole) (.ptr j off) = .ptr j off := by
  simp only [CapV.fc, ite_self]
@[simp] theorem gone_mapo_sl {sk : Sk} {sz : Nat} {h : List Value → Option (List (List IV))} {hole : Option (List Value)} {j sz2 lo len : Nat} : gone id (.mapo sk sz h hole) (.sl j sz2 lo len) = if j = id then .junk else .sl j sz2 lo len := by
  by_cases h : j = id <;> simp [gone, AV.fc, h]
@[simp] theorem gone_mapo_ep {sk : Sk} {sz : Nat} {h : List Value → Option (List (List IV))} {hole : Option (List Value)} {j sz2 i off : Nat} : gone id (.mapo sk sz h hole) (.ep j sz2 i off) = if j = id then .junk else .ep j sz2 i off := by
  by_cases h : j = id <;> simp [gone, AV.fc, h]
@[simp] theorem gone_mapo_ptr {sk : Sk} {sz : Nat} {h : List Value → Option (List (List IV))} {hole : Option (List Value)} {j off : Nat} : gone id (.mapo sk sz h hole) (.ptr j off) = if j = id then .junk else .ptr j off := by
  by_cases h : j = id <;> simp [gone, AV.fc, h]
@[simp] theorem capfc_listo {sz : Nat} {ys : List (List (List IV))} {hole : Option Nat} {j off : Nat} : CapV.fc id (.listo sz ys hole) (.ptr j off) = .ptr j off := by
  simp only [CapV.fc, ite_self]
@[simp] theorem gone_listo_ep {sz : Nat} {ys : List (List (List IV))} {hole : Option Nat} {j sz2 i off : Nat} : gone id (.listo sz ys hole) (.ep j sz2 i off) = if j = id then .junk else .ep j sz2 i off := by
  by_cases h : j = id <;> simp [gone, AV.fc, h]
@[simp] theorem gone_listo_mpr {sz : Nat} {ys : List (List (List IV))} {hole : Option Nat} {j : Nat} : gone id (.listo sz ys hole) (.mpr j) = if j = id then .junk else .mpr j := by
  by_cases h : j = id <;> simp [gone, AV.fc, h]
@[simp] theorem gone_listo_ptr {sz : Nat} {ys : List (List (List IV))} {hole : Option Nat} {j off : Nat} : gone id (.listo sz ys hole) (.ptr j off) = if j = id then .junk else .ptr j off := by
  by_cases h : j = id <;> simp [gone, AV.fc, h]
@[simp] theorem capfc_iter {sk : Sk} {g : List Value → Option (List IV)} {left : List (List Value)} {last : Option (List Value)} {j off : Nat} : CapV.fc id (.iter sk g left last) (.ptr j off) = .ptr j off := by
  simp only [CapV.fc, ite_self]
@[simp] theorem gone_iter_sl {sk : Sk} {g : List Value → Option (List IV)} {left : List (List Value)} {last : Option (List Value)} {j sz2 lo len : Nat} : gone id (.iter sk g left last) (.sl j sz2 lo len) = if j = id then .junk else .sl j sz2 lo len := by
  by_cases h : j = id <;> simp [gone, AV.fc, h]
@[simp] theorem gone_iter_ep {sk : Sk} {g : List Value → Option (List IV)} {left : List (List Value)} {last : Option (List Value)} {j sz2 i off : Nat} : gone id (.iter sk g left last) (.ep j sz2 i off) = if j = id then .junk else .ep j sz2 i off := by
  by_cases h : j = id <;> simp [gone, AV.fc, h]
@[simp] theorem gone_iter_mpr {sk : Sk} {g : List Value → Option (List IV)} {left : List (List Value)} {last : Option (List Value)} {j : Nat} : gone id (.iter sk g left last) (.mpr j) = if j = id then .junk else .mpr j := by
  by_cases h : j = id <;> simp [gone, AV.fc, h]
@[simp] theorem gone_iter_ptr {sk : Sk} {g : List Value → Option (List IV)} {left : List (List Value)} {last : Option (List Value)} {j off : Nat} : gone id (.iter sk g left last) (.ptr j off) = if j = id then .junk else .ptr j off := by
  by_cases h : j = id <;> simp [gone, AV.fc, h]
@[simp] theorem gone_listo_sl {sz : Nat} {ys : List (List (List IV))} {j sz2 lo len : Nat} : gone id (.listo sz ys none) (.sl j sz2 lo len) = if j = id then .iv (.lst 1 (((ys.map fun x => [IV.lst sz x]).drop lo).take len)) else .sl j sz2 lo len := by
  by_cases h : j = id <;> simp [gone, AV.fc, h]
@[simp] theorem gone_mapo_mpr {sk : Sk} {sz : Nat} {h : List Value → Option (List (List IV))} {j : Nat} : gone id (.mapo sk sz h none) (.mpr j) = if j = id then .iv (.mp sk fun k => (h k).map fun xs => [IV.lst sz xs]) else .mpr j := by
  by_cases h : j = id <;> simp [gone, AV.fc, h]
end
section
variable {s : St} {id : Nat} {fr : List (Nat × AV)} {hp : Hp}
@[simp] theorem fillA_cons {z : List AV} {off n : Nat} {x : Operand} {r : List (Nat × Nat × Operand)} : fillA s z ((off, n, x) :: r) = (s.ev x).cellsOf.bind fun cs => if cs.length = n ∧ off + n ≤ z.length then fillA s (setRange z off cs) r else none := by
  simp only [fillA]
  cases (s.ev x).cellsOf <;> rfl
@[simp] theorem litA_cons {sz i : Nat} {x : Operand} {r : List (Nat × Operand)} : litA s sz ((i, x) :: r) = ((s.ev x).cellsOf.bind fun cs => allO AV.iv? cs).bind fun c => if c.length = sz then (litA s sz r).map fun q => c :: q else none := by
  simp only [litA, mapM_allO]
  cases ((s.ev x).cellsOf.bind fun cs => allO AV.iv? cs) <;> rfl
@[simp] theorem setRange_d {α : Type} {z cs : List α} {off : Nat} : setRange z off cs = z.take off ++ cs ++ z.drop (off + cs.length) := rfl
@[simp] theorem add_mk {o : Ob} : St.add ⟨fr, hp⟩ id o = ⟨fr, (id, o) :: hp⟩ := rfl
@[simp] theorem join_mk {H : Hp} : St.join ⟨fr, hp⟩ H = ⟨fr, H ++ hp⟩ := rfl
@[simp] theorem put_s {d : Nat} {x : AV} : St.put ⟨fr, hp⟩ (some d) x = ⟨(d, x) :: fr, hp⟩ := rfl
@[simp] theorem put_n {x : AV} : St.put ⟨fr, hp⟩ none x = ⟨fr, hp⟩ := rfl
@[simp] theorem get_mk' {t : Nat} : St.get ⟨fr, hp⟩ t = (look fr t).getD .junk := rfl
def loF (id : Nat) : List (Nat × AV) → List (Nat × AV)
  | [] => []
  | (t, x) :: r => (t, x.mapc (AV.kc (· == id))) :: loF id r
def loH (id : Nat) : Hp → Hp
  | [] => []
  | (t, x) :: r => (t, x.mapc (AV.kc (· == id))) :: loH id r
def kiH (id : Nat) : Hp → Hp
  | [] => []
  | (t, x) :: r => if t = id then kiH id r else (t, x.mapc (AV.kc (· == id))) :: kiH id r
@[simp] theorem loF_nil : loF id [] = [] := rfl
@[simp] theorem loF_cons {t : Nat} {x : AV} {r : List (Nat × AV)} : loF id ((t, x) :: r) = (t, x.mapc (AV.kc (· == id))) :: loF id r := rfl
@[simp] theorem loH_nil : loH id [] = [] := rfl
@[simp] theorem loH_cons {t : Nat} {x : Ob} {r : Hp} : loH id ((t, x) :: r) = (t, x.mapc (AV.kc (· == id))) :: loH id r := rfl
@[simp] theorem kiH_nil : kiH id [] = [] := rfl
@[simp] theorem kiH_cons {t : Nat} {x : Ob} {r : Hp} : kiH id ((t, x) :: r) = if t = id then kiH id r else (t, x.mapc (AV.kc (· == id))) :: kiH id r := rfl
theorem loF_eq (fr : List (Nat × AV)) : loF id fr = fr.map fun (t, x) => (t, x.mapc (AV.kc (· == id))) := by
  induction fr with
  | nil => rfl
  | cons p r ih => obtain ⟨t, x⟩ := p; simp only [loF, List.map_cons, ih]
theorem loH_eq (fr : Hp) : loH id fr = fr.map fun (t, x) => (t, x.mapc (AV.kc (· == id))) := by
  induction fr with
  | nil => rfl
  | cons p r ih => obtain ⟨t, x⟩ := p; simp only [loH, List.map_cons, ih]
theorem kiH_eq (fr : Hp) : kiH id fr = (fr.map fun (t, x) => (t, x.mapc (AV.kc (· == id)))).filter (·.1 != id) := by
  induction fr with
  | nil => rfl
  | cons p r ih =>
    obtain ⟨t, x⟩ := p
    simp only [kiH, List.map_cons, List.filter_cons, ih]
    by_cases h : t = id <;> simp [h]
@[simp] theorem lone_mk : St.lone id ⟨fr, hp⟩ = ⟨loF id fr, loH id hp⟩ := by
  simp only [St.lone, St.mapc, loF_eq, loH_eq]
@[simp] theorem kill_mk : St.kill id ⟨fr, hp⟩ = ⟨loF id fr, kiH id hp⟩ := by
  simp only [St.kill, St.mapc, loF_eq, kiH_eq]
end
@[simp] theorem argFr_nil {i : Nat} : argFr i [] = [] := rfl
@[simp] theorem argFr_cons {i : Nat} {x : AV} {r : List AV} : argFr i (x :: r) = (i, x) :: argFr (i + 1) r := rfl
/- what is handed over -/
def wL (sz lo len : Nat) : Option Ob → Option IV
  | some (.list _ xs) => some (.lst sz ((xs.drop lo).take len))
  | some (.listo sz' xs none) => some (.lst 1 (((xs.map fun x => [IV.lst sz' x]).drop lo).take len))
  | _ => none
def wM : Option Ob → Option IV
  | some (.map sk g) => some (.mp sk g)
  | some (.mapo sk sz g none) => some (.mp sk fun k => (g k).map fun xs => [IV.lst sz xs])
  | _ => none
def wB (off : Nat) (f : List AV → Option (List IV)) : Option Ob → Option IV
  | some (.box cs) => (f cs).map fun l => .pt (l.drop off)
  | _ => none
def IV.or (y : Option IV) (x : AV) : AV := match y with | some y => .iv y | none => x
def IV.orC (y : Option IV) (x : CapV) : CapV := match y with | some y => .val y | none => x
section
variable {s : St} {ids : List Nat} {d id sz lo len i off : Nat} {x : IV} {cs : List AV} {f : FuncId} {a b : List CapV} {fr : Bool}
@[simp] theorem wL_list {z : Nat} {xs : List (List IV)} : wL sz lo len (some (.list z xs)) = some (.lst sz ((xs.drop lo).take len)) := rfl
@[simp] theorem wL_listo {z : Nat} {xs : List (List (List IV))} : wL sz lo len (some (.listo z xs none)) = some (.lst 1 (((xs.map fun x => [IV.lst z x]).drop lo).take len)) := rfl
@[simp] theorem wM_map {sk g} : wM (some (.map sk g)) = some (.mp sk g) := rfl
@[simp] theorem wM_mapo {sk g} : wM (some (.mapo sk sz g none)) = some (.mp sk fun k => (g k).map fun xs => [IV.lst sz xs]) := rfl
@[simp] theorem wB_box {g : List AV → Option (List IV)} : wB off g (some (.box cs)) = (g cs).map fun l => .pt (l.drop off) := rfl
@[simp] theorem or_s {y : IV} {x : AV} : IV.or (some y) x = .iv y := rfl
@[simp] theorem or_n {x : AV} : IV.or none x = x := rfl
@[simp] theorem orC_s {y : IV} {x : CapV} : IV.orC (some y) x = .val y := rfl
@[simp] theorem orC_n {x : CapV} : IV.orC none x = x := rfl
@[simp] theorem ivW_iv : s.ivW ids d (.iv x) = some x := by cases d <;> rfl
@[simp] theorem ivW_nil : s.ivW ids d (.nil sz) = some (.lst sz []) := by cases d <;> rfl
@[simp] theorem ivW_sl : s.ivW ids d (.sl id sz lo len) = if ids.contains id then none else wL sz lo len (look s.hp id) := by cases d <;> rfl
@[simp] theorem ivW_mpr : s.ivW ids d (.mpr id) = if ids.contains id then none else wM (look s.hp id) := by cases d <;> rfl
@[simp] theorem ivW_ptr3 : s.ivW ids 3 (.ptr id off) = if ids.contains id then none else wB off (fun cs => allO (s.ivW ids 2) cs) (look s.hp id) := rfl
@[simp] theorem ivW_ptr2 : s.ivW ids 2 (.ptr id off) = if ids.contains id then none else wB off (fun cs => allO (s.ivW ids 1) cs) (look s.hp id) := rfl
@[simp] theorem ivW_ptr1 : s.ivW ids 1 (.ptr id off) = if ids.contains id then none else wB off (fun cs => allO (s.ivW ids 0) cs) (look s.hp id) := rfl
@[simp] theorem allO_W_iv : allO (s.ivW ids d) (.iv x :: cs) = (allO (s.ivW ids d) cs).map fun l => x :: l := by simp [allO]
@[simp] theorem allO_W_nil : allO (s.ivW ids d) (.nil sz :: cs) = (allO (s.ivW ids d) cs).map fun l => .lst sz [] :: l := by simp [allO]
@[simp] theorem allO_W_sl : allO (s.ivW ids d) (.sl id sz lo len :: cs) = (s.ivW ids d (.sl id sz lo len)).bind fun y => (allO (s.ivW ids d) cs).map fun l => y :: l := by
  simp only [allO]; cases s.ivW ids d (.sl id sz lo len) <;> rfl
@[simp] theorem allO_W_mpr : allO (s.ivW ids d) (.mpr id :: cs) = (s.ivW ids d (.mpr id)).bind fun y => (allO (s.ivW ids d) cs).map fun l => y :: l := by
  simp only [allO]; cases s.ivW ids d (.mpr id) <;> rfl
@[simp] theorem allO_W_ptr : allO (s.ivW ids d) (.ptr id off :: cs) = (s.ivW ids d (.ptr id off)).bind fun y => (allO (s.ivW ids d) cs).map fun l => y :: l := by
  simp only [allO]; cases s.ivW ids d (.ptr id off) <;> rfl
@[simp] theorem allO_W_ivs {l : List IV} : allO (s.ivW ids d) (l.map .iv) = some l := by
  induction l with
  | nil => rfl
  | cons x l ih => simp [ih]
@[simp] theorem bor_ptr : CapV.bor s ids (.ptr id off) = IV.orC (s.ivW ids 3 (.ptr id off)) (.ptr id off) := by
  simp only [CapV.bor]; cases s.ivW ids 3 (.ptr id off) <;> rfl
@[simp] theorem bor_val : CapV.bor s ids (.val x) = .val x := rfl
@[simp] theorem capinn_ptr : CapV.inn ids (.ptr id off) = ids.contains id := rfl
@[simp] theorem capinn_val : CapV.inn ids (.val x) = true := rfl
@[simp] theorem inn_iv : AV.inn ids (.iv x) = true := rfl
@[simp] theorem inn_nil : AV.inn ids (.nil sz) = true := rfl
@[simp] theorem inn_sl : AV.inn ids (.sl id sz lo len) = ids.contains id := rfl
@[simp] theorem inn_ptr : AV.inn ids (.ptr id off) = ids.contains id := rfl
@[simp] theorem inn_ep : AV.inn ids (.ep id sz i off) = ids.contains id := rfl
@[simp] theorem inn_mpr : AV.inn ids (.mpr id) = ids.contains id := rfl
@[simp] theorem inn_fn : AV.inn ids (.fn f a b) = (a.all (CapV.inn ids) && b.all (CapV.inn ids)) := rfl
@[simp] theorem inns_agg : AV.inns ids (.agg cs) = cs.all (AV.inn ids) := rfl
@[simp] theorem inns_iv : AV.inns ids (.iv x) = true := rfl
@[simp] theorem inns_nil : AV.inns ids (.nil sz) = true := rfl
@[simp] theorem inns_sl : AV.inns ids (.sl id sz lo len) = ids.contains id := rfl
@[simp] theorem inns_ptr : AV.inns ids (.ptr id off) = ids.contains id := rfl
@[simp] theorem inns_mpr : AV.inns ids (.mpr id) = ids.contains id := rfl
@[simp] theorem inns_fn : AV.inns ids (.fn f a b) = (a.all (CapV.inn ids) && b.all (CapV.inn ids)) := rfl
@[simp] theorem arg1_iv : s.arg1 fr ids (.iv x) = .iv x := rfl
@[simp] theorem arg1_nil : s.arg1 fr ids (.nil sz) = .iv (.lst sz []) := rfl
@[simp] theorem arg1_fn : s.arg1 fr ids (.fn f a b) = if fr && !((AV.fn f a b).inn ids) then .fn f (a.map (CapV.bor s ids)) (b.map (CapV.bor s ids)) else .fn f a b := rfl
@[simp] theorem arg1_sl : s.arg1 fr ids (.sl id sz lo len) = if fr && !(ids.contains id) then IV.or (s.ivW ids 3 (.sl id sz lo len)) (.sl id sz lo len) else .sl id sz lo len := rfl
@[simp] theorem arg1_mpr : s.arg1 fr ids (.mpr id) = if fr && !(ids.contains id) then IV.or (s.ivW ids 3 (.mpr id)) (.mpr id) else .mpr id := rfl
@[simp] theorem arg1_ptr : s.arg1 fr ids (.ptr id off) = if fr && !(ids.contains id) then IV.or (s.ivW ids 3 (.ptr id off)) (.ptr id off) else .ptr id off := rfl
@[simp] theorem arg_iv : s.arg fr ids (.iv x) = .iv x := rfl
@[simp] theorem arg_nil : s.arg fr ids (.nil sz) = .iv (.lst sz []) := rfl
@[simp] theorem arg_fn : s.arg fr ids (.fn f a b) = s.arg1 fr ids (.fn f a b) := rfl
@[simp] theorem arg_sl : s.arg fr ids (.sl id sz lo len) = s.arg1 fr ids (.sl id sz lo len) := rfl
@[simp] theorem arg_mpr : s.arg fr ids (.mpr id) = s.arg1 fr ids (.mpr id) := rfl
@[simp] theorem arg_ptr : s.arg fr ids (.ptr id off) = s.arg1 fr ids (.ptr id off) := rfl
@[simp] theorem arg_agg_ivs {l : List IV} : s.arg fr ids (.agg (l.map .iv)) = .agg (l.map .iv) := by
  simp only [St.arg, List.map_map]
  congr 1
@[simp] theorem arg_agg : s.arg fr ids (.agg cs) = .agg (cs.map (s.arg1 fr ids)) := rfl
@[simp] theorem args_d {pre : List CapV} {ops : List Operand} {post : List CapV} : s.args pre ops post = pre.map CapV.av ++ ops.map s.ev ++ post.map CapV.av := rfl
end
@[simp] theorem map_gone_ivs {id : Nat} {o : Ob} {l : List IV} : (l.map AV.iv).map (gone id o) = l.map AV.iv := by
  induction l with
  | nil => rfl
  | cons x l ih => rw [List.map_cons, List.map_cons, ih, gone_iv]
@[simp] theorem map_kc_ivs {p : Nat → Bool} {l : List IV} : (l.map AV.iv).map (AV.kc p) = l.map AV.iv := by
  induction l with
  | nil => rfl
  | cons x l ih => rw [List.map_cons, List.map_cons, ih, kc_iv]
@[simp] theorem all_inn_ivs {ids : List Nat} {l : List IV} : (l.map AV.iv).all (AV.inn ids) = true := by
  induction l with
  | nil => rfl
  | cons x l ih => rw [List.map_cons, List.all_cons, ih, inn_iv]; rfl
@[simp] theorem all_one_ivs {l : List IV} : (l.map AV.iv).all AV.one = true := by
  induction l with
  | nil => rfl
  | cons x l ih => rw [List.map_cons, List.all_cons, ih, one_iv]; rfl
attribute [simp ↓] onZ_n lkpK_n lkpK_s stp_lkp onSl_s msetK_n msetK_s stp_mset
end Go.Vm
end

/- What is said of a function under other names for its objects. -/
section
namespace Go.Vm
structure Ren where
  to : Nat → Nat
  inv : Nat → Nat
  to_inv : ∀ x, to (inv x) = x
  inv_to : ∀ x, inv (to x) = x
def Ren.back (ρ : Ren) : Ren := ⟨ρ.inv, ρ.to, ρ.inv_to, ρ.to_inv⟩
def swapN (a b x : Nat) : Nat := if x = a then b else if x = b then a else x
theorem swapN_swapN (a b x : Nat) : swapN a b (swapN a b x) = x := by
  unfold swapN
  by_cases h1 : x = a
  · subst h1
    by_cases h2 : b = x
    · subst h2; simp
    · simp [h2]
  · by_cases h2 : x = b
    · subst h2; simp [h1]
    · simp [h1, h2]
def Ren.swap (a b : Nat) : Ren := ⟨swapN a b, swapN a b, swapN_swapN a b, swapN_swapN a b⟩
def Ren.id : Ren := ⟨fun x => x, fun x => x, fun _ => rfl, fun _ => rfl⟩
def Ren.comp (ρ σ : Ren) : Ren := ⟨fun x => σ.to (ρ.to x), fun x => ρ.inv (σ.inv x), fun x => by simp [ρ.to_inv, σ.to_inv], fun x => by simp [ρ.inv_to, σ.inv_to]⟩
def Ren.swaps : List (Nat × Nat) → Ren
  | [] => Ren.id
  | (a, b) :: r => (Ren.swap a b).comp (Ren.swaps r)
def CapV.ren (ρ : Nat → Nat) : CapV → CapV
  | .ptr id off => .ptr (ρ id) off
  | .val x => .val x
def AV.ren1 (ρ : Nat → Nat) : AV → AV
  | .sl id sz lo len => .sl (ρ id) sz lo len
  | .ptr id off => .ptr (ρ id) off
  | .ep id sz i off => .ep (ρ id) sz i off
  | .mpr id => .mpr (ρ id)
  | .fn f a b => .fn f (a.map (CapV.ren ρ)) (b.map (CapV.ren ρ))
  | x => x
def AV.ren2 (ρ : Nat → Nat) : AV → AV
  | .agg cs => .agg (cs.map (AV.ren1 ρ))
  | x => x.ren1 ρ
def AV.ren (ρ : Nat → Nat) : AV → AV
  | .tup cs => .tup (cs.map (AV.ren2 ρ))
  | x => x.ren2 ρ
def Ob.ren (ρ : Nat → Nat) : Ob → Ob
  | .box cs => .box (cs.map (AV.ren1 ρ))
  | .gh Z vs cs => .gh Z vs (cs.map (AV.ren ρ))
  | .lent org sz xs => .lent (ρ org) sz xs
  | o => o
def Hp.ren (ρ : Nat → Nat) (H : Hp) : Hp := H.map fun p => (ρ p.1, p.2.ren ρ)
def Pl.ren (ρ : Ren) (ψ : Pl) : Pl := ⟨fun j => ψ (ρ.inv j), fun j b => ψ.sub (ρ.inv j) b⟩
def AV.shal1 : AV → Bool
  | .agg _ | .tup _ => false
  | _ => true
def AV.shal2 : AV → Bool
  | .agg cs => cs.all AV.shal1
  | .tup _ => false
  | _ => true
def AV.shal : AV → Bool
  | .tup cs => cs.all AV.shal2
  | x => x.shal2
def Ob.shal : Ob → Bool
  | .box cs => cs.all AV.shal1
  | .gh _ _ cs => cs.all AV.shal
  | _ => true
section
variable (ρ : Ren)
theorem look_ren (H : Hp) (id : Nat) : look (H.ren ρ.to) (ρ.to id) = (look H id).map (Ob.ren ρ.to) := by
  induction H with
  | nil => rfl
  | cons p H ih =>
    obtain ⟨j, o⟩ := p
    simp only [Hp.ren, List.map_cons, look]
    by_cases h : j = id
    · subst h; simp
    · rw [if_neg h, if_neg (fun e => h (by have := congrArg ρ.inv e; simpa [ρ.inv_to] using this))]
      exact ih
theorem look_ren' (H : Hp) (id : Nat) : look (H.ren ρ.to) id = (look H (ρ.inv id)).map (Ob.ren ρ.to) := by
  have := look_ren ρ H (ρ.inv id)
  rwa [ρ.to_inv] at this
theorem dim_ren (f : Nat → Nat) (o : Ob) : (o.ren f).dim = o.dim := by cases o <;> rfl
theorem multi_ren (f : Nat → Nat) (o : Ob) : (o.ren f).multi = o.multi := by cases o <;> rfl
theorem isLent_ren (f : Nat → Nat) (o : Ob) : (o.ren f).isLent = o.isLent := by cases o <;> rfl
theorem pl_ren (ψ : Pl) (id : Nat) : (ψ.ren ρ) (ρ.to id) = ψ id := by simp [Pl.ren, ρ.inv_to]
theorem owns_ren (ψ : Pl) (id b : Nat) : Owns (ψ.ren ρ) (ρ.to id) b ↔ Owns ψ id b := by simp [Owns, Pl.ren, ρ.inv_to]
variable {A : Nat → Prop} {ψ : Pl} {H : Hp} {w : World}
theorem RCap.ren {c : CapV} {v : Value} (h : RCap A ψ H w c v) : RCap A (ψ.ren ρ) (H.ren ρ.to) w (c.ren ρ.to) v := by
  cases h with
  | ptr id off b k o ho hb => exact .ptr (ρ.to id) off b k (o.ren ρ.to) (by rw [look_ren, ho]; rfl) (by rw [pl_ren]; exact hb)
  | val x v h => exact .val x v h
theorem RAV.ren1 {x : AV} {v : Value} (h : RAV A ψ H w x v) (hs : x.shal1 = true) : RAV A (ψ.ren ρ) (H.ren ρ.to) w (x.ren1 ρ.to) v := by
  cases h with
  | iv x v h => exact .iv x v h
  | nil sz => exact .nil sz
  | sl0 id sz o n ho he hb => exact .sl0 (ρ.to id) sz (o.ren ρ.to) n (by rw [look_ren, ho]; rfl) (by rw [dim_ren]; exact he) (by rw [pl_ren]; exact hb)
  | sl id sz lo len b k cap a o n ho he hx hb ha hlc hk hm =>
    exact .sl (ρ.to id) sz lo len b k cap a (o.ren ρ.to) n (by rw [look_ren, ho]; rfl) (by rw [dim_ren]; exact he) hx (by rw [pl_ren]; exact hb) ha hlc hk hm
  | ptr id off b k o ho hb => exact .ptr (ρ.to id) off b k (o.ren ρ.to) (by rw [look_ren, ho]; rfl) (by rw [pl_ren]; exact hb)
  | ep id sz i off b k o n ho he hi hb => exact .ep (ρ.to id) sz i off b k (o.ren ρ.to) n (by rw [look_ren, ho]; rfl) (by rw [dim_ren]; exact he) hi (by rw [pl_ren]; exact hb)
  | mpr id b k o ho hb => exact .mpr (ρ.to id) b k (o.ren ρ.to) (by rw [look_ren, ho]; rfl) (by rw [pl_ren]; exact hb)
  | fn f first caps vf vc hf hc h1 h2 =>
    refine .fn f _ _ vf vc (by simpa using hf) (by simpa using hc) (fun i c h => ?_) (fun i c h => ?_) <;> rw [List.getElem?_map] at h
    · cases hi : first[i]? with
      | none => rw [hi] at h; cases h
      | some c0 => rw [hi] at h; cases h; exact (h1 i c0 hi).ren ρ
    · cases hi : caps[i]? with
      | none => rw [hi] at h; cases h
      | some c0 => rw [hi] at h; cases h; exact (h2 i c0 hi).ren ρ
  | agg cs vs hl h => cases hs
  | tup cs vs hl h => cases hs
  | un => exact .un
  | junk v => exact .junk v
theorem RAV.ren2 {x : AV} {v : Value} (h : RAV A ψ H w x v) (hs : x.shal2 = true) : RAV A (ψ.ren ρ) (H.ren ρ.to) w (x.ren2 ρ.to) v := by
  cases x with
  | agg cs =>
    cases h with
    | agg cs vs hl h =>
      refine .agg _ vs (by simpa using hl) fun i c hc => ?_
      rw [List.getElem?_map] at hc
      cases hi : cs[i]? with
      | none => rw [hi] at hc; cases hc
      | some c0 => rw [hi] at hc; cases hc; exact (h i c0 hi).ren1 ρ (List.all_eq_true.1 hs c0 (List.mem_of_getElem? hi))
  | tup cs => cases hs
  | _ => exact h.ren1 ρ rfl
theorem RAV.ren {x : AV} {v : Value} (h : RAV A ψ H w x v) (hs : x.shal = true) : RAV A (ψ.ren ρ) (H.ren ρ.to) w (x.ren ρ.to) v := by
  cases x with
  | tup cs =>
    cases h with
    | tup cs vs hl h =>
      refine .tup _ vs (by simpa using hl) fun i c hc => ?_
      rw [List.getElem?_map] at hc
      cases hi : cs[i]? with
      | none => rw [hi] at hc; cases hc
      | some c0 => rw [hi] at hc; cases hc; exact (h i c0 hi).ren2 ρ (List.all_eq_true.1 hs c0 (List.mem_of_getElem? hi))
  | _ => exact h.ren2 ρ hs
theorem ROb.ren {id : Nat} {o : Ob} (h : ROb A ψ H w id o) (hs : o.shal = true) : ROb A (ψ.ren ρ) (H.ren ρ.to) w (ρ.to id) (o.ren ρ.to) := by
  have hψ : (ψ.ren ρ) (ρ.to id) = ψ id := pl_ren ρ ψ id
  have hsub : ∀ b, ψ.sub id b → (ψ.ren ρ).sub (ρ.to id) b := fun b hb => by simpa [Pl.ren, ρ.inv_to] using hb
  cases o with
  | box cs =>
    obtain ⟨b, c, e, h1, h2, h3, h4⟩ := h
    refine ⟨b, c, e, by rw [hψ]; exact h1, h2, by simpa using h3, fun i x hx => ?_⟩
    rw [List.getElem?_map] at hx
    cases hi : cs[i]? with
    | none => rw [hi] at hx; cases hx
    | some c0 => rw [hi] at hx; cases hx; exact (h4 i c0 hi).ren1 ρ (List.all_eq_true.1 hs c0 (List.mem_of_getElem? hi))
  | list sz xs =>
    obtain ⟨h0, h⟩ := h
    refine ⟨h0, ?_⟩
    rcases h with ⟨h1, h2⟩ | ⟨b, k, c, e, h1, h2⟩
    · exact .inl ⟨by rw [hψ]; exact h1, h2⟩
    · exact .inr ⟨b, k, c, e, by rw [hψ]; exact h1, h2⟩
  | lent org sz xs =>
    obtain ⟨h0, h⟩ := h
    refine ⟨h0, ?_⟩
    rcases h with ⟨h1, h2⟩ | ⟨b, k, c, e, h1, h2⟩
    · exact .inl ⟨by rw [hψ]; exact h1, h2⟩
    · exact .inr ⟨b, k, c, e, by rw [hψ]; exact h1, h2⟩
  | map sk g => obtain ⟨b, es, clock, h1, h2⟩ := h; exact ⟨b, es, clock, by rw [hψ]; exact h1, h2⟩
  | mapS sk g n kk => obtain ⟨b, es, clock, h1, h2⟩ := h; exact ⟨b, es, clock, by rw [hψ]; exact h1, h2⟩
  | mapo sk sz g hole =>
    obtain ⟨b, es, clock, pl, h1, h2, h3, h4, h5, h6, h7, h8, h9, h10, h11⟩ := h
    exact ⟨b, es, clock, pl, by rw [hψ]; exact h1, h2, h3, h4, h5, h6, h7, h8, h9, fun k xs b' q g1 g2 => hsub _ (h10 k xs b' q g1 g2), h11⟩
  | listo sz xs hole =>
    obtain ⟨h0, b, k, c, e, pl, h1, h2, h3, h4, h5, h6, h7⟩ := h
    exact ⟨h0, b, k, c, e, pl, by rw [hψ]; exact h1, h2, h3, h4, h5, fun i x b' q g1 g2 g3 => hsub _ (h6 i x b' q g1 g2 g3), h7⟩
  | iter sk g left last => obtain ⟨b, m, si, st, la, h1, h2⟩ := h; exact ⟨b, m, si, st, la, by rw [hψ]; exact h1, h2⟩
  | gh Z vs cs =>
    obtain ⟨h1, h2, h3, h4⟩ := h
    refine ⟨by rw [hψ]; exact h1, h2.mono (fun _ _ h => h) hsub (fun _ _ _ => rfl) (fun _ _ => rfl), by simpa using h3, fun i x hx => ?_⟩
    rw [List.getElem?_map] at hx
    cases hi : cs[i]? with
    | none => rw [hi] at hx; cases hx
    | some c0 => rw [hi] at hx; cases hx; exact (h4 i c0 hi).ren ρ (List.all_eq_true.1 hs c0 (List.mem_of_getElem? hi))
end
/-! ### There and back -/
theorem capv_back (ρ : Ren) (c : CapV) : (c.ren ρ.to).ren ρ.inv = c := by cases c <;> simp [CapV.ren, ρ.inv_to]
theorem ren1_back (ρ : Ren) (x : AV) : (x.ren1 ρ.to).ren1 ρ.inv = x := by
  cases x <;> simp [AV.ren1, ρ.inv_to]
  constructor
  · rw [List.map_congr_left (g := id) (fun c _ => by simp [capv_back])]; simp
  · rw [List.map_congr_left (g := id) (fun c _ => by simp [capv_back])]; simp
theorem map_back {α : Type} {f g : α → α} (h : ∀ x, g (f x) = x) (l : List α) : (l.map f).map g = l := by
  rw [List.map_map]
  have : g ∘ f = id := funext h
  rw [this, List.map_id]
theorem ren2_eq (f : Nat → Nat) {x : AV} (h : ∀ cs, x ≠ .agg cs) : x.ren2 f = x.ren1 f := by cases x <;> first | rfl | exact absurd rfl (h _)
theorem ren_eq (f : Nat → Nat) {x : AV} (h : ∀ cs, x ≠ .tup cs) : x.ren f = x.ren2 f := by cases x <;> first | rfl | exact absurd rfl (h _)
theorem ren1_agg (f : Nat → Nat) {x : AV} (h : ∀ cs, x ≠ .agg cs) : ∀ cs, x.ren1 f ≠ .agg cs := by cases x <;> first | exact absurd rfl (h _) | (intro cs e; cases e)
theorem ren2_tup (f : Nat → Nat) {x : AV} (h : ∀ cs, x ≠ .tup cs) : ∀ cs, x.ren2 f ≠ .tup cs := by cases x <;> first | exact absurd rfl (h _) | (intro cs e; cases e)
theorem ren2_back (ρ : Ren) (x : AV) : (x.ren2 ρ.to).ren2 ρ.inv = x := by
  by_cases h : ∃ cs, x = .agg cs
  · obtain ⟨cs, rfl⟩ := h
    simp only [AV.ren2, map_back (ren1_back ρ)]
  · have h : ∀ cs, x ≠ .agg cs := fun cs e => h ⟨cs, e⟩
    rw [ren2_eq _ h, ren2_eq _ (ren1_agg _ h), ren1_back]
theorem ren_back (ρ : Ren) (x : AV) : (x.ren ρ.to).ren ρ.inv = x := by
  by_cases h : ∃ cs, x = .tup cs
  · obtain ⟨cs, rfl⟩ := h
    simp only [AV.ren, map_back (ren2_back ρ)]
  · have h : ∀ cs, x ≠ .tup cs := fun cs e => h ⟨cs, e⟩
    rw [ren_eq _ h, ren_eq _ (ren2_tup _ h), ren2_back]
theorem ob_back (ρ : Ren) (o : Ob) : (o.ren ρ.to).ren ρ.inv = o := by
  cases o <;> first | rfl | simp [Ob.ren, ρ.inv_to, -List.map_map, map_back (ren1_back ρ), map_back (ren_back ρ)]
theorem hp_back (ρ : Ren) (H : Hp) : (H.ren ρ.to).ren ρ.inv = H := by
  induction H with
  | nil => rfl
  | cons p H ih =>
    obtain ⟨id, o⟩ := p
    simp only [Hp.ren, List.map_cons, ρ.inv_to, ob_back] at ih ⊢
    rw [ih]
theorem shal1_ren (f : Nat → Nat) (x : AV) : (x.ren1 f).shal1 = x.shal1 := by cases x <;> rfl
theorem shal2_ren (f : Nat → Nat) (x : AV) : (x.ren2 f).shal2 = x.shal2 := by
  cases x <;> first | rfl | simp [AV.ren2, AV.shal2, Function.comp_def, shal1_ren]
theorem shal_ren (f : Nat → Nat) (x : AV) : (x.ren f).shal = x.shal := by
  cases x with
  | tup cs => simp [AV.ren, AV.shal, Function.comp_def, shal2_ren]
  | agg cs => exact shal2_ren f (.agg cs)
  | _ => rfl
theorem obshal_ren (f : Nat → Nat) (o : Ob) : (o.ren f).shal = o.shal := by
  cases o <;> first | rfl | simp [Ob.ren, Ob.shal, Function.comp_def, shal1_ren, shal_ren]
theorem held_ren (ρ : Ren) (ψ : Pl) (H : Hp) (b : Nat) : Held (ψ.ren ρ) (H.ren ρ.to) b ↔ Held ψ H b := by
  constructor
  · rintro ⟨id, o, h1, h2⟩
    rw [look_ren'] at h1
    obtain ⟨o', h3, rfl⟩ := map_some' h1
    exact ⟨ρ.inv id, o', h3, h2⟩
  · rintro ⟨id, o, h1, h2⟩
    exact ⟨ρ.to id, o.ren ρ.to, by rw [look_ren, h1]; rfl, (owns_ren ρ ψ id b).2 h2⟩
theorem GSpec.ren {P : Program} {fr : Bool} {f : FuncId} {args : List AV} {H : Hp} {res : AV} {H' : Hp} (h : GSpec P fr f args H res H') (ρ : Ren)
    (hs : (args.all AV.shal && res.shal && (H ++ H').all (fun p => p.2.shal)) = true) :
    GSpec P fr f (args.map (AV.ren ρ.to)) (H.ren ρ.to) (res.ren ρ.to) (H'.ren ρ.to) := by
  simp only [Bool.and_eq_true, List.all_append, List.all_eq_true] at hs
  obtain ⟨⟨hs1, hs2⟩, hs3, hs4⟩ := hs
  obtain ⟨⟨hl1, hl2⟩, h⟩ := h
  have lent : ∀ {H : Hp}, (∀ id o, look H id = some o → o.isLent = false) → ∀ id o, look (H.ren ρ.to) id = some o → o.isLent = false := by
    intro H hl id o ho
    rw [look_ren'] at ho
    obtain ⟨o', h3, rfl⟩ := map_some' ho
    rw [isLent_ren]; exact hl _ _ h3
  refine ⟨⟨lent hl1, lent hl2⟩, ?_⟩
  intro A ψ w vs hA hob hinj hsubs hheld hlen hrav
  let ψ0 : Pl := ψ.ren ρ.back
  have hψ : ψ0.ren ρ = ψ := by
    obtain ⟨m, s⟩ := ψ
    simp only [ψ0, Pl.ren, Ren.back, ρ.to_inv]
  have hlk : ∀ id o, look H id = some o → look (H.ren ρ.to) (ρ.to id) = some (o.ren ρ.to) := fun id o ho => by rw [look_ren, ho]; rfl
  have shH : ∀ {H : Hp}, (∀ x ∈ H, x.2.shal = true) → ∀ id o, look H id = some o → o.shal = true := fun hh id o ho => hh _ (look_some_mem ho)
  have hspec := h A ψ0 w vs hA
    (fun id o ho => by
      have := (hob _ _ (hlk id o ho)).ren ρ.back (by rw [obshal_ren]; exact shH hs3 id o ho)
      have e1 : ρ.back.to (ρ.to id) = id := ρ.inv_to id
      have e2 : (o.ren ρ.to).ren ρ.back.to = o := ob_back ρ o
      have e3 : (H.ren ρ.to).ren ρ.back.to = H := hp_back ρ H
      rw [e1, e2, e3] at this
      exact this)
    (fun id id' o o' b h1 h2 h3 h4 => by
      have e := hinj (ρ.to id) (ρ.to id') _ _ b (hlk id o h1) (hlk id' o' h2) h3 h4
      have := congrArg ρ.inv e
      simpa [ρ.inv_to] using this)
    (fun id o b h1 h2 => by
      obtain ⟨q1, q2, q3⟩ := hsubs (ρ.to id) _ b (hlk id o h1) h2
      rw [multi_ren] at q1
      exact ⟨q1, q2, q3⟩)
    (fun b hb => hheld b (by have := (held_ren ρ ψ0 H b).2 hb; rw [hψ] at this; exact this))
    (by simpa using hlen)
    (fun i x hx => by
      have h1 := hrav i (x.ren ρ.to) (by rw [List.getElem?_map, hx]; rfl)
      have := h1.ren ρ.back (by rw [shal_ren]; exact hs1 x (List.mem_of_getElem? hx))
      have e2 : (x.ren ρ.to).ren ρ.back.to = x := ren_back ρ x
      have e3 : (H.ren ρ.to).ren ρ.back.to = H := hp_back ρ H
      rw [e2, e3] at this
      exact this)
  refine hspec.mono ?_
  rintro e w' ⟨v, ψ', rfl, k1, k2, k3, k4, k5, k6, kS, k7, k8⟩
  have hheld' : ∀ b, Held (ψ'.ren ρ) (H'.ren ρ.to) b ↔ Held ψ' H' b := held_ren ρ ψ' H'
  refine ⟨v, ψ'.ren ρ, rfl, fun b hb hh => k1 b hb fun hx => hh (by have := (held_ren ρ ψ0 H b).2 hx; rw [hψ] at this; exact this), k2, k3, fun id o ho => ?_, fun id o b ho hb => ?_, fun id id' o o' b h1 h2 h3 h4 => ?_, fun id o b h1 h2 => ?_, fun id o ho => ?_, ?_⟩
  · rw [look_ren'] at ho
    obtain ⟨o', h3, rfl⟩ := map_some' ho
    have := k4 _ _ h3
    show ψ' (ρ.inv id) = ψ id
    rw [this]
    show ψ (ρ.to (ρ.inv id)) = ψ id
    rw [ρ.to_inv]
  · rw [look_ren'] at ho
    obtain ⟨o', h3, rfl⟩ := map_some' ho
    rcases k5 _ _ b h3 hb with ⟨o0, q1, q2⟩ | q
    · left
      refine ⟨o0.ren ρ.to, by rw [look_ren', q1]; rfl, ?_⟩
      have := (owns_ren ρ ψ0 (ρ.inv id) b).2 q2
      rw [hψ, ρ.to_inv] at this
      exact this
    · exact .inr q
  · rw [look_ren'] at h1 h2
    obtain ⟨o1, q1, rfl⟩ := map_some' h1
    obtain ⟨o2, q2, rfl⟩ := map_some' h2
    have e := k6 _ _ _ _ b q1 q2 h3 h4
    have := congrArg ρ.to e
    simpa [ρ.to_inv] using this
  · rw [look_ren'] at h1
    obtain ⟨o1, q1, rfl⟩ := map_some' h1
    obtain ⟨r1, r2, r3⟩ := kS _ _ b q1 h2
    exact ⟨by rw [multi_ren]; exact r1, r2, r3⟩
  · rw [look_ren'] at ho
    obtain ⟨o1, q1, rfl⟩ := map_some' ho
    have := (k7 _ _ q1).ren ρ (shH hs4 _ _ q1)
    rw [ρ.to_inv] at this
    refine this.mono (fun b _ hb => ⟨hb.1, fun hh => hb.2 ((hheld' b).1 hh)⟩) (fun _ _ _ => rfl) (Keeps.refl _ _) ⟨rfl, fun _ h => h⟩ (fun _ _ => rfl)
  · exact (k8.ren ρ hs2).mono (fun b _ hb => ⟨hb.1, fun hh => hb.2 ((hheld' b).1 hh)⟩) (fun _ _ _ => rfl) (Keeps.refl _ _)
end Go.Vm
end

/- From the law's row to what is said of the function: what comes in, as the machine has it. -/
section
namespace Go.Vm
def consecF (P : Program) : List Field → Nat → Option Nat
  | [], o => some o
  | f :: r, o => if f.offset = o then consecF P r (o + P.cellsOf f.type) else none
def plainSet (P : Program) (S : List TypeId) : Bool := S.all fun t => match P.underlying t with
  | some .bool | some (.int _) | some .string => decide (P.cellsOf t = 1)
  | some (.slice e) => decide (P.cellsOf t = 1) && S.contains e && decide (0 < P.cellsOf e)
  | some (.struct fs) => fs.toList.all (fun f => S.contains f.type) && decide (consecF P fs.toList 0 = some (P.cellsOf t))
  | _ => false
def WfT (P : Program) : Nat → TypeId → List IV → Prop
  | 0, _, _ => False
  | f + 1, t, cs => match P.underlying t with
    | some .bool => ∃ b, cs = [.v (.bool b)]
    | some (.int k) => ∃ n, cs = [.v (.int k n)] ∧ (Lit.int k n).wf = true
    | some .string => ∃ s : ByteArray, cs = [.v (.string s)] ∧ s.size ≤ maxLen
    | some (.slice e) => ∃ xs, cs = [.lst (P.cellsOf e) xs] ∧ xs.length ≤ maxLen ∧ ∀ x ∈ xs, WfT P f e x
    | some (.struct fs) => cs.length = P.cellsOf t ∧ ∀ fld ∈ fs.toList, WfT P f fld.type ((cs.drop fld.offset).take (P.cellsOf fld.type))
    | _ => False
def SzT (P : Program) : Nat → TypeId → List IV → Prop
  | 0, _, _ => False
  | f + 1, t, cs => match P.underlying t with
    | some (.slice e) => ∃ xs, cs = [.lst (P.cellsOf e) xs] ∧ xs.length * P.bytesOf e ≤ reachBytes ∧ ∀ x ∈ xs, SzT P f e x
    | some (.struct fs) => ∀ fld ∈ fs.toList, SzT P f fld.type ((cs.drop fld.offset).take (P.cellsOf fld.type))
    | _ => True
theorem weightsEach_mem {H : Type} {P : Program} : ∀ {ts : List TypeId} {ds : List (DataW H)} {i : Nat} {t : TypeId} {d : DataW H}, ts[i]? = some t → ds[i]? = some d → ∀ n ∈ d.weights P t, n ∈ DataW.weightsEach P ts ds
  | [], _, i, t, d, h, _, _, _ => by simp at h
  | _ :: _, [], i, t, d, _, h, _, _ => by simp at h
  | t0 :: ts, d0 :: ds, i, t, d, h1, h2, n, hn => by
    simp only [DataW.weightsEach, List.mem_append]
    cases i with
    | zero => simp at h1 h2; subst h1; subst h2; exact .inl hn
    | succ i => exact .inr (weightsEach_mem (ts := ts) (ds := ds) (i := i) (by simpa using h1) (by simpa using h2) n hn)
theorem weightsAll_mem {H : Type} {P : Program} {e : TypeId} : ∀ {ds : List (DataW H)} {i : Nat} {d : DataW H}, ds[i]? = some d → ∀ n ∈ d.weights P e, n ∈ DataW.weightsAll P e ds
  | [], i, d, h, _, _ => by simp at h
  | d0 :: ds, i, d, h, n, hn => by
    simp only [DataW.weightsAll, List.mem_append]
    cases i with
    | zero => simp at h; subst h; exact .inl hn
    | succ i => exact .inr (weightsAll_mem (ds := ds) (i := i) (by simpa using h) n hn)
def Reach {H : Type} (P : Program) (t : TypeId) (d : DataW H) : Prop := ∀ n ∈ d.weights P t, n ≤ reachBytes
theorem mapM_some' {α β : Type} {f : α → Option β} : ∀ {l : List α} {r : List β}, l.mapM f = some r → r.length = l.length ∧ ∀ (i : Nat) (x : α), l[i]? = some x → ∃ y, r[i]? = some y ∧ f x = some y
  | [], r, h => by simp at h; subst h; simp
  | a :: l, r, h => by
    rw [List.mapM_cons] at h
    cases h1 : f a with
    | none => rw [h1] at h; cases h
    | some b =>
      rw [h1] at h
      cases h2 : l.mapM f with
      | none => rw [h2] at h; cases h
      | some r' =>
        rw [h2] at h
        have e : b :: r' = r := by simpa using h
        subst e
        obtain ⟨g1, g2⟩ := mapM_some' h2
        refine ⟨by simp [g1], fun i x hx => ?_⟩
        cases i with
        | zero => simp only [List.getElem?_cons_zero, Option.some.injEq] at hx; subst hx; exact ⟨b, rfl, h1⟩
        | succ i => simpa using g2 i x (by simpa using hx)
def RRow (A : Nat → Prop) (w : World) (cs : List IV) (vs : List Value) : Prop := cs.length = vs.length ∧ ∀ i c, cs[i]? = some c → RIV A w c (vs.getD i undef)
theorem World.cells?_some {w : World} {a : Addr} {n : Nat} {vs : List Value} (h : w.cells? 0 a n = some vs) : vs.length = n ∧ ∀ i, i < n → w.cell? (a.add i) = some (vs.getD i undef) := by
  unfold World.cells? at h
  rw [if_pos (Nat.zero_le _)] at h
  obtain ⟨g1, g2⟩ := mapM_some' h
  refine ⟨by simpa using g1, fun i hi => ?_⟩
  obtain ⟨y, h1, h2⟩ := g2 i i (by simp [hi])
  rw [h2]; simp [List.getD, h1]
theorem take_drop_getD (vs : List Value) (o n i : Nat) (hi : i < n) : ((vs.drop o).take n).getD i undef = vs.getD (o + i) undef := by
  simp [List.getD, List.getElem?_take, hi, List.getElem?_drop]
theorem fields_row {P : Program} {A : Nat → Prop} {w : World} {vs : List Value} {Φ : TypeId → List IV → Prop} : ∀ (fs : List Field) (o N : Nat), consecF P fs o = some N → N ≤ vs.length →
    (∀ fld ∈ fs, ∃ cs, cs.length = P.cellsOf fld.type ∧ RRow A w cs ((vs.drop fld.offset).take (P.cellsOf fld.type)) ∧ Φ fld.type cs) →
    ∃ cs : List IV, o + cs.length = N ∧ (∀ i c, cs[i]? = some c → RIV A w c (vs.getD (o + i) undef)) ∧ ∀ fld ∈ fs, o ≤ fld.offset ∧ Φ fld.type ((cs.drop (fld.offset - o)).take (P.cellsOf fld.type))
  | [], o, N, h, hN, _ => by
    simp only [consecF, Option.some.injEq] at h
    exact ⟨[], by simpa using h, by simp, by simp⟩
  | fld :: r, o, N, h, hN, hf => by
    simp only [consecF] at h
    split at h
    · rename_i ho
      subst ho
      obtain ⟨c1, h1, ⟨h2, h3⟩, h4⟩ := hf fld List.mem_cons_self
      obtain ⟨c2, g1, g2, g3⟩ := fields_row r (fld.offset + P.cellsOf fld.type) N h hN (fun x hx => hf x (List.mem_cons_of_mem _ hx))
      refine ⟨c1 ++ c2, by simp [h1]; omega, fun i c hc => ?_, fun x hx => ?_⟩
      · by_cases hi : i < c1.length
        · rw [List.getElem?_append_left hi] at hc
          have := h3 i c hc
          rwa [take_drop_getD _ _ _ _ (by omega)] at this
        · rw [List.getElem?_append_right (by omega)] at hc
          have := g2 _ c hc
          rwa [show fld.offset + P.cellsOf fld.type + (i - c1.length) = fld.offset + i from by omega] at this
      · rcases List.mem_cons.1 hx with rfl | hx
        · refine ⟨Nat.le_refl _, ?_⟩
          rw [Nat.sub_self, List.drop_zero, ← h1, List.take_left]
          exact h4
        · obtain ⟨q1, q2⟩ := g3 x hx
          refine ⟨by omega, ?_⟩
          rw [show x.offset - fld.offset = c1.length + (x.offset - (fld.offset + P.cellsOf fld.type)) from by omega, List.drop_append]
          rw [List.drop_eq_nil_of_le (by omega), List.nil_append, Nat.add_sub_cancel_left]
          exact q2
    · cases h
theorem trod_riv {H : Type} {enc : TypeId × Value → H} {P : Program} {S : List TypeId} (hS : plainSet P S = true) {w : World} : ∀ (fuel : Nat) (t : TypeId), t ∈ S → ∀ (vs : List Value) (d : DataW H) (ps : List MemPlace),
    DataW.trod enc P w 0 (fun _ => true) true fuel t vs = some (d, ps) → ∃ cs : List IV, cs.length = P.cellsOf t ∧ RRow (fun b => b < w.heap.size) w cs vs ∧ WfT P fuel t cs ∧ (Reach P t d → SzT P fuel t cs) := by
  intro fuel
  induction fuel with
  | zero => intro t _ vs d ps h; cases h
  | succ fuel ih =>
    intro t ht vs d ps h
    have hp := List.all_eq_true.1 hS t ht
    simp only [DataW.trod] at h
    have one : ∀ {v : Value}, v.oneCell' = true → RRow (fun b => b < w.heap.size) w [.v v] [v] := by
      intro v hv
      refine ⟨rfl, fun i c hc => ?_⟩
      cases i with
      | zero => simp only [List.getElem?_cons_zero, Option.some.injEq] at hc; subst hc; exact .v v hv
      | succ i => simp at hc
    cases hu : P.underlying t with
    | none => rw [hu] at hp; simp at hp
    | some dd =>
      rw [hu] at hp h
      cases dd with
      | bool =>
        have hc : P.cellsOf t = 1 := by simpa using hp
        split at h <;> first | (rename_i heq; cases heq) | skip
        all_goals try (cases h)
        rename_i b _
        exact ⟨_, by rw [hc]; rfl, one rfl, by simp [WfT, hu], fun _ => by simp [SzT, hu]⟩
      | int k =>
        have hc : P.cellsOf t = 1 := by simpa using hp
        split at h <;> first | (rename_i heq; cases heq) | skip
        all_goals try (cases h)
        split at h
        · rename_i hk
          obtain ⟨rfl, hw⟩ := hk
          exact ⟨_, by rw [hc]; rfl, one rfl, by simp [WfT, hu, hw], fun _ => by simp [SzT, hu]⟩
        · cases h
      | string =>
        have hc : P.cellsOf t = 1 := by simpa using hp
        split at h <;> first | (rename_i heq; cases heq) | skip
        all_goals try (cases h)
        split at h
        · rename_i hk
          exact ⟨_, by rw [hc]; rfl, one rfl, by simp [WfT, hu, hk], fun _ => by simp [SzT, hu]⟩
        · cases h
      | slice e =>
        simp only [Bool.and_eq_true, decide_eq_true_eq, List.contains_eq_mem] at hp
        obtain ⟨⟨hc, he⟩, he0⟩ := hp
        split at h <;> first | (rename_i heq; cases heq) | skip
        all_goals try (cases h)
        · refine ⟨[.lst (P.cellsOf e) []], by rw [hc]; rfl, ⟨rfl, fun i c hc => ?_⟩, by simp [WfT, hu], fun _ => by simp [SzT, hu]⟩
          cases i with
          | zero => simp only [List.getElem?_cons_zero, Option.some.injEq] at hc; subst hc; exact .lnil _
          | succ i => simp at hc
        · rename_i a len cap
          split at h
          · rename_i hb
            obtain ⟨_, hlc, hcm⟩ := hb
            obtain ⟨elems, hel, h⟩ := Option.bind_eq_some_iff.1 h
            obtain ⟨g1, g2⟩ := mapM_some' hel
            obtain ⟨rest, _, hd⟩ := Option.map_eq_some_iff.1 h
            have hd : d = .slice (elems.map (·.1)) (rest.map (·.1)) := (congrArg Prod.fst hd).symm
            have hR : Reach P t d → len * P.bytesOf e ≤ reachBytes ∧ ∀ (i : Nat) (y : DataW H × List MemPlace), elems[i]? = some y → Reach P e y.1 := by
              intro hR
              rw [hd] at hR
              unfold Reach at hR
              rw [DataW.weights, hu] at hR
              refine ⟨?_, fun i y hy n hn => hR n (List.mem_cons_of_mem _ (List.mem_append_left _ (weightsAll_mem (i := i) (by simp [hy]) n hn)))⟩
              have h0 := hR _ List.mem_cons_self
              simp only [List.length_map, g1, List.length_range] at h0
              exact Nat.le_trans (Nat.mul_le_mul_right _ (Nat.le_add_right _ _)) h0
            have hel1 : ∀ i, i < len → ∃ vs', w.cells? 0 (a.add (i * P.cellsOf e)) (P.cellsOf e) = some vs' ∧ ∃ x : List IV, x.length = P.cellsOf e ∧ RRow (fun b => b < w.heap.size) w x vs' ∧ WfT P fuel e x ∧ (Reach P t d → SzT P fuel e x) := by
              intro i hi
              obtain ⟨y, q1, q2⟩ := g2 i i (by simp [hi])
              obtain ⟨vs', q3, q4⟩ := Option.bind_eq_some_iff.1 q2
              obtain ⟨x, p1, p2, p3, p4⟩ := ih e (by simpa using he) vs' y.1 y.2 (by rw [q4])
              exact ⟨vs', q3, x, p1, p2, p3, fun hr => p4 ((hR hr).2 i y q1)⟩
            classical
            let X : Nat → List IV := fun i => if hi : i < len then Classical.choose (Classical.choose_spec (hel1 i hi)).2 else []
            let V : Nat → List Value := fun i => if hi : i < len then Classical.choose (hel1 i hi) else []
            have hX : ∀ i, i < len → w.cells? 0 (a.add (i * P.cellsOf e)) (P.cellsOf e) = some (V i) ∧ (X i).length = P.cellsOf e ∧ RRow (fun b => b < w.heap.size) w (X i) (V i) ∧ WfT P fuel e (X i) ∧ (Reach P t d → SzT P fuel e (X i)) := by
              intro i hi
              simp only [X, V, dif_pos hi]
              obtain ⟨q1, q2⟩ := Classical.choose_spec (hel1 i hi)
              exact ⟨q1, Classical.choose_spec q2⟩
            have hxl : ((List.range len).map X).length = len := by simp
            have hxi : ∀ i x, ((List.range len).map X)[i]? = some x → i < len ∧ x = X i := by
              intro i x hx
              have hi : i < len := by
                have := (List.getElem?_eq_some_iff.1 hx).1
                simpa using this
              refine ⟨hi, ?_⟩
              rw [List.getElem?_map, List.getElem?_range hi] at hx
              simpa using hx.symm
            refine ⟨[.lst (P.cellsOf e) ((List.range len).map X)], by rw [hc]; rfl, ⟨rfl, fun i c hc => ?_⟩, ?_, fun hr => ?_⟩
            · cases i with
              | succ i => simp at hc
              | zero =>
                simp only [List.getElem?_cons_zero, Option.some.injEq] at hc; subst hc
                show RIV _ w _ (.slice (some a) len cap)
                have hat : ∀ i j c, at2 ((List.range len).map X) i j = some c → i < len ∧ j < P.cellsOf e ∧ (X i)[j]? = some c := by
                  intro i j c hij
                  obtain ⟨r, hr, hj⟩ := at2_lt hij
                  obtain ⟨hi, rfl⟩ := hxi i r hr
                  exact ⟨hi, by rw [← (hX i hi).2.1]; exact (List.getElem?_eq_some_iff.1 hj).1, hj⟩
                by_cases hl0 : len = 0
                · subst hl0
                  exact .lst (P.cellsOf e) [] 0 0 cap a (fun _ _ => undef) (fun h => absurd rfl h) (by simp) (by simp) (fun i j c hij => by simp [at2] at hij) (fun i j c hij => by simp [at2] at hij)
                · have hspot : a.spot = none := by
                    have := World.cell?_spot ((World.cells?_some (hX 0 (by omega)).1).2 0 he0)
                    simpa [Addr.add] using this
                  obtain ⟨bl, off, spot⟩ := a
                  simp only at hspot
                  subst hspot
                  have hcell : ∀ i j, i < len → j < P.cellsOf e → w.cell? ⟨bl, off + (i * P.cellsOf e + j), none⟩ = some ((V i).getD j undef) := by
                    intro i j hi hj
                    have := (World.cells?_some (hX i hi).1).2 j hj
                    rw [addr_add, addr_add] at this
                    rw [← this, Nat.add_assoc]
                  have key := RIV.lst (A := fun b => b < w.heap.size) (w := w) (P.cellsOf e) ((List.range len).map X) bl off cap ⟨bl, off, none⟩ (fun i j => (V i).getD j undef)
                    (fun _ => rfl) (fun x hx => by
                      obtain ⟨i, hi, rfl⟩ := List.mem_map.1 hx
                      exact (hX i (by simpa using hi)).2.1) (by rw [hxl]; exact hlc)
                    (fun i j c hij => by
                      obtain ⟨q1, q2, q3⟩ := hat i j c hij
                      have := hcell i j q1 q2
                      exact ⟨World.block_lt_of_cell? w _ this, this⟩)
                    (fun i j c hij => by
                      obtain ⟨q1, q2, q3⟩ := hat i j c hij
                      exact (hX i q1).2.2.1.2 j c q3)
                  rw [hxl] at key; exact key
            · simp only [WfT, hu]
              refine ⟨_, rfl, by rw [hxl]; omega, fun x hx => ?_⟩
              obtain ⟨i, hi, rfl⟩ := List.mem_map.1 hx
              exact (hX i (by simpa using hi)).2.2.2.1
            · simp only [SzT, hu]
              refine ⟨_, rfl, by rw [hxl]; exact (hR hr).1, fun x hx => ?_⟩
              obtain ⟨i, hi, rfl⟩ := List.mem_map.1 hx
              exact (hX i (by simpa using hi)).2.2.2.2 hr
          · cases h
      | struct fs =>
        simp only [Bool.and_eq_true, decide_eq_true_eq, List.all_eq_true, List.contains_eq_mem] at hp
        obtain ⟨hfs, hcon⟩ := hp
        have h : (if vs.length = P.cellsOf t then (fs.toList.mapM fun f => DataW.trod enc P w 0 (fun _ => true) true fuel f.type ((vs.drop f.offset).take (P.cellsOf f.type))).map fun xs => (DataW.agg (xs.map (·.1)), xs.flatMap (·.2)) else none) = some (d, ps) := by
          match vs, h with
          | _, h => exact h
        split at h
        · rename_i hl
          obtain ⟨xs, hxs, hd⟩ := Option.map_eq_some_iff.1 h
          have hd : d = .agg (xs.map (·.1)) := (congrArg Prod.fst hd).symm
          obtain ⟨g1, g2⟩ := mapM_some' hxs
          obtain ⟨cs, q1, q2, q3⟩ := fields_row (A := fun b => b < w.heap.size) (w := w) (vs := vs) (Φ := fun t' cs => WfT P fuel t' cs ∧ (Reach P t d → SzT P fuel t' cs)) fs.toList 0 (P.cellsOf t) hcon (by omega) (fun fld hf => by
            obtain ⟨i, hi⟩ := List.getElem?_of_mem hf
            obtain ⟨y, r1, r2⟩ := g2 i fld hi
            obtain ⟨cs, r3, r4, r5, r6⟩ := ih fld.type (by simpa using hfs fld hf) _ y.1 y.2 (by rw [r2])
            refine ⟨cs, r3, r4, r5, fun hr => r6 ?_⟩
            rw [hd] at hr
            unfold Reach at hr
            rw [DataW.weights, hu] at hr
            exact fun n hn => hr n (weightsEach_mem (i := i) (by simp [hi]) (by simp [r1]) n hn))
          rw [Nat.zero_add] at q1
          refine ⟨cs, q1, ⟨by omega, fun i c hc => by have := q2 i c hc; rwa [Nat.zero_add] at this⟩, ?_, fun hr => ?_⟩
          · simp only [WfT, hu]
            exact ⟨q1, fun fld hf => by have := (q3 fld hf).2.1; rwa [Nat.sub_zero] at this⟩
          · simp only [SzT, hu]
            exact fun fld hf => by have := (q3 fld hf).2.2 hr; rwa [Nat.sub_zero] at this
        · cases h
      | _ => simp at hp
end Go.Vm
end

/- From what is said of the function to the law's row. -/
section
namespace Go.Vm
open Go.ChangeShapes Go.WideShapes Go.ChangeAt Go.RowKit
def argsT (P : Program) : List TypeId → List (List IV) → List AV
  | t :: ts, cs :: css => packAV (isAggT P t) (cs.map .iv) :: argsT P ts css
  | _, _ => []
def WfArgs (P : Program) : List TypeId → List (List IV) → Prop
  | [], [] => True
  | t :: ts, cs :: css => (∃ fuel, WfT P fuel t cs) ∧ WfArgs P ts css
  | _, _ => False
def SzArgs (P : Program) : List TypeId → List (List IV) → Prop
  | [], [] => True
  | t :: ts, cs :: css => (∃ fuel, WfT P fuel t cs ∧ SzT P fuel t cs) ∧ SzArgs P ts css
  | _, _ => False
theorem okWide_agg {P : Program} {S : List TypeId} (hS : plainSet P S = true) {t : TypeId} (ht : t ∈ S) {w : World} {base : Nat} {v : Value} (h : Value.okWide P w .any base t v) : isAggV v = isAggT P t := by
  have hp := List.all_eq_true.1 hS t ht
  unfold Value.okWide at h
  cases hu : P.underlying t with
  | none => rw [hu] at hp; simp at hp
  | some dd =>
    rw [hu] at hp h
    cases dd with
    | struct fs => obtain ⟨cs, rfl, _⟩ := h; simp [isAggV, isAggT, hu]
    | bool => simp only [Cell.okWide, Cell.ok, hu] at h; cases v <;> simp_all [isAggV, isAggT]
    | int k => simp only [Cell.okWide, Cell.ok, hu] at h; cases v <;> simp_all [isAggV, isAggT]
    | string => simp only [Cell.okWide, Cell.ok, hu] at h; cases v <;> simp_all [isAggV, isAggT]
    | slice e => simp only [Cell.okWide, Cell.ok, hu] at h; cases v <;> simp_all [isAggV, isAggT]
    | _ => simp at hp
theorem args_open {H : Type} {enc : TypeId × Value → H} {P : Program} {S : List TypeId} (hS : plainSet P S = true) {W : World} {base : Nat} : ∀ (ts : List TypeId) (vs : List Value) (ds : List (DataW H)) (p : List MemPlace),
    DataW.TrodAll enc P W 0 (fun _ => true) true ts vs ds p → (∀ t ∈ ts, t ∈ S) → (∀ (j : Nat) t v, ts[j]? = some t → vs[j]? = some v → Value.okWide P W .any base t v) →
    ∃ css, (WfArgs P ts css ∧ ((∀ n ∈ DataW.weightsEach P ts ds, n ≤ reachBytes) → SzArgs P ts css)) ∧ vs.length = (argsT P ts css).length ∧ ∀ i x, (argsT P ts css)[i]? = some x → RAV (fun b => b < W.heap.size) ⟨fun _ => none, fun _ _ => False⟩ [] W x (vs.getD i undef)
  | [], vs, ds, p, h, _, _ => by
    cases vs with
    | nil => exact ⟨[], ⟨trivial, fun _ => trivial⟩, rfl, by simp [argsT]⟩
    | cons v vs => cases ds <;> exact h.elim
  | t :: ts, vs, ds, p, h, hts, hok => by
    obtain ⟨v, vs, d, ds, p, q, rfl, rfl, rfl, ⟨fuel, h1⟩, h2⟩ := trodAll_cons h
    obtain ⟨cs, g1, ⟨g2, g3⟩, g4, g5⟩ := trod_riv hS fuel t (hts t List.mem_cons_self) _ _ _ h1
    obtain ⟨css, ⟨r1, r4⟩, r2, r3⟩ := args_open hS ts vs ds q h2 (fun x hx => hts x (List.mem_cons_of_mem _ hx)) (fun j t' v' h3 h4 => hok (j + 1) t' v' h3 h4)
    refine ⟨cs :: css, ⟨⟨⟨fuel, g4⟩, r1⟩, fun hw => ⟨⟨fuel, g4, g5 fun n hn => hw n (by simp only [DataW.weightsEach, List.mem_append]; exact .inl hn)⟩, r4 fun n hn => hw n (by simp only [DataW.weightsEach, List.mem_append]; exact .inr hn)⟩⟩, by simp [argsT, r2], fun i x hx => ?_⟩
    cases i with
    | zero =>
      simp only [argsT, List.getElem?_cons_zero, Option.some.injEq] at hx
      subst hx
      refine agg_pack (okWide_agg hS (hts t List.mem_cons_self) (hok 0 t v rfl rfl)) (by simpa using g2.symm) fun i x hx => ?_
      rw [← toList_getD]; exact g3 i x hx
    | succ i =>
      simp only [argsT, List.getElem?_cons_succ] at hx
      simpa using r3 i x hx
theorem args_again {H : Type} {enc : TypeId × Value → H} {P : Program} (hl : laidOutB P = true) {W W' : World} (bel : Below W.heap.size W W') : ∀ (ts : List TypeId) (vs : List Value) (ds : List (DataW H)) (p : List MemPlace),
    DataW.TrodAll enc P W 0 (fun _ => true) true ts vs ds p → (∀ t ∈ ts, P.readableRec t = true ∧ t < P.types.size) → DataW.TrodAll enc P W' 0 (fun b => decide (b < W.heap.size)) true ts vs ds p
  | [], vs, ds, p, h, _ => by
    cases vs <;> cases ds <;> first | exact h | exact h.elim
  | t :: ts, vs, ds, p, h, hts => by
    obtain ⟨v, vs, d, ds, p, q, rfl, rfl, rfl, h1, h2⟩ := trodAll_cons h
    have ht := hts t List.mem_cons_self
    refine trodAll_cons_mk (Below.trod hl ht.1 ht.2 h1 bel ?_) (args_again hl bel ts vs ds q h2 (fun x hx => hts x (List.mem_cons_of_mem _ hx)))
    intro x hx
    obtain ⟨m, hm⟩ := h1
    exact DataW.trod_lt m _ _ _ hm x hx
theorem calls_true {P : Program} {f : FuncId} {args : List AV} (h : GSpec P true f args [] (.iv (.v (.bool true))) []) {w : World} {vs : List Value} (hl : vs.length = args.length)
    (hv : ∀ i x, args[i]? = some x → RAV (fun b => b < w.heap.size) ⟨fun _ => none, fun _ _ => False⟩ [] w x (vs.getD i undef)) :
    Calls P f vs.toArray w fun e w' => e = .returned (.bool true) ∧ Below w.heap.size w w' := by
  have hno : ∀ {ψ : Pl} {b : Nat}, ¬ Held ψ [] b := by rintro ψ b ⟨id, o, h, _⟩; cases h
  refine (h.2 (fun b => b < w.heap.size) ⟨fun _ => none, fun _ _ => False⟩ w vs (fun _ h => h) (fun id o ho => by cases ho) (fun id id' o o' b ho => by cases ho) (fun id o b ho => by cases ho) (fun b hb => (hno hb).elim) hl hv).mono ?_
  rintro e w' ⟨v, ψ', rfl, k1, k2, k3, k4, k5, k6, kS, k7, k8⟩
  exact ⟨by rw [inv_v k8], k3.os, k3.tape, k3.output, k2, fun b hb => k1 b hb hno⟩
theorem law_contract0 {C : Checked} {S : List TypeId} (hS : plainSet C.prog S = true) (hl : laidOutB C.prog = true) {f : FuncId} {fn : Func} {ts : List TypeId} {tb : TypeId} {spec : ChangeSpec} (hvars : spec.vars = [])
    (hpar : fn.params.toList = ts) (hts : ∀ t ∈ ts, t ∈ S) (hrd : ∀ t ∈ ts, C.prog.readableRec t = true ∧ t < C.prog.types.size) (hres : fn.resultTypes = #[tb]) (htb : C.prog.underlying tb = some .bool)
    (hspec : ∀ (H : Type) (ds : List (DataW H)), ds.length = ts.length → (spec.fn H ds).results = [.lit (.bool true)] ∧ (spec.fn H ds).args = ds ∧ (spec.fn H ds).vars = [])
    (sz : Prop) (hg : ∀ css, WfArgs C.prog ts css → (sz → SzArgs C.prog ts css) → GSpec C.prog true f (argsT C.prog ts css) [] (.iv (.v (.bool true))) [])
    {H : Type} {enc : TypeId × Value → H} {W : World} {base : Nat} {args : Array Value} {ds gs : List (DataW H)} {before : List MemPlace}
    (hval : ∀ (j : Nat) t v, fn.params[j]? = some t → args[j]? = some v → Value.okWide C.prog W .any base t v) (hW : DataW.Whole enc C.prog fn.params.toList spec.vars false W args.toList ds gs before)
    (hsz : sz → ∀ n ∈ DataW.weightsEach C.prog ts ds, n ≤ reachBytes) :
    Calls C.prog f args W fun e W' => ∃ v, e = .returned v ∧ spec.post enc C.prog fn false true false false W args v W' := by
  have hW' := hW
  obtain ⟨p, q, hA, hV, rfl, hfz, hnd⟩ := hW
  rw [hpar] at hA
  rw [hvars] at hV
  obtain ⟨rfl, rfl⟩ := trodVars_none hV
  obtain ⟨css, ⟨h1, h1s⟩, h2, h3⟩ := args_open (base := base) hS ts args.toList ds p hA hts (fun j t v hj hv => hval j t v (by rw [← Array.getElem?_toList, hpar]; exact hj) (by rw [← Array.getElem?_toList]; exact hv))
  have hlen : ∀ (ts : List TypeId) (vs : List Value) (ds : List (DataW H)) (p : List MemPlace), DataW.TrodAll enc C.prog W 0 (fun _ => true) true ts vs ds p → ds.length = ts.length := by
    intro ts
    induction ts with
    | nil => intro vs ds p h; cases vs <;> cases ds <;> first | rfl | exact h.elim
    | cons t ts ih =>
      intro vs ds p h
      obtain ⟨v, vs, d, ds, p, q, rfl, rfl, rfl, _, h2⟩ := trodAll_cons h
      simp [ih _ _ _ h2]
  have hds := hlen _ _ _ _ hA
  obtain ⟨s1, s2, s3⟩ := hspec H ds hds
  refine (calls_true (hg css h1 fun s => h1s (hsz s)) h2 h3).mono ?_
  rintro e W' ⟨rfl, bel⟩
  refine ⟨_, rfl, ds, [], _, [], p, [], hW', ?_, ?_, ?_, bel.frame _, fun h => by cases h⟩
  · rw [List.append_nil, s1, hres]
    exact trodAll_mk1 (shut_bool htb _)
  · rw [List.append_nil, s2, hpar]
    exact args_again hl bel ts _ ds p hA hrd
  · rw [List.append_nil, s3, hvars]
    rfl
theorem law_contract {C : Checked} {S : List TypeId} (hS : plainSet C.prog S = true) (hl : laidOutB C.prog = true) {f : FuncId} {fn : Func} {ts : List TypeId} {tb : TypeId} {spec : ChangeSpec} (hvars : spec.vars = [])
    (hpar : fn.params.toList = ts) (hts : ∀ t ∈ ts, t ∈ S) (hrd : ∀ t ∈ ts, C.prog.readableRec t = true ∧ t < C.prog.types.size) (hres : fn.resultTypes = #[tb]) (htb : C.prog.underlying tb = some .bool)
    (hspec : ∀ (H : Type) (ds : List (DataW H)), ds.length = ts.length → (spec.fn H ds).results = [.lit (.bool true)] ∧ (spec.fn H ds).args = ds ∧ (spec.fn H ds).vars = [])
    (hg : ∀ css, WfArgs C.prog ts css → GSpec C.prog true f (argsT C.prog ts css) [] (.iv (.v (.bool true))) [])
    {H : Type} {enc : TypeId × Value → H} {W : World} {base : Nat} {args : Array Value} {ds gs : List (DataW H)} {before : List MemPlace}
    (hval : ∀ (j : Nat) t v, fn.params[j]? = some t → args[j]? = some v → Value.okWide C.prog W .any base t v) (hW : DataW.Whole enc C.prog fn.params.toList spec.vars false W args.toList ds gs before) :
    Calls C.prog f args W fun e W' => ∃ v, e = .returned v ∧ spec.post enc C.prog fn false true false false W args v W' :=
  law_contract0 hS hl hvars hpar hts hrd hres htb hspec False (fun css h _ => hg css h) hval hW fun h => h.elim
end Go.Vm
end

/- How a function's proof goes by reckoning: what is unfolded, and the ways out. -/
section
namespace Go.Vm
attribute [simp] St.lit St.pure1 St.pure St.ivOf at2 vtrue
@[simp] theorem list_getD_some {α : Type} (l : List α) (i : Nat) (x : α) : (l.getD i x) = (l[i]?).getD x := rfl
theorem get_mapc_iv {f : AV → AV} {s : St} {t : Nat} {x : IV} (hf : ∀ x, f (.iv x) = .iv x) (h : s.get t = .iv x) : (s.mapc f).get t = .iv x := by
  simp only [St.get, St.mapc] at h ⊢
  rw [look_map (AV.mapc f)]
  cases hl : look s.fr t with
  | none => rw [hl] at h; cases h
  | some y => rw [hl] at h; simp only [Option.getD_some] at h; subst h; simp [AV.mapc, hf]
theorem get_drop_iv {s : St} {t id : Nat} {x : IV} (h : s.get t = .iv x) : (s.drop id).get t = .iv x := by
  unfold St.drop
  split
  · exact h
  · rename_i o _
    exact get_mapc_iv (f := fun x => (x.fc id o).kc (· == id)) (fun _ => rfl) h
theorem get_drops_iv (D : List Nat) : ∀ {s : St} {t : Nat} {x : IV}, s.get t = .iv x → (s.drops D).get t = .iv x := by
  induction D with
  | nil => intro s t x h; exact h
  | cons i D ih => intro s t x h; exact ih (get_drop_iv h)
theorem look_drop_none {s : St} {id k : Nat} (h : look s.hp k = none) : look (s.drop id).hp k = none := by
  unfold St.drop
  split
  · exact h
  · simp only [look_filter, look_mapc, h, Option.map_none]; split <;> rfl
theorem look_drops_none (D : List Nat) : ∀ {s : St} {k : Nat}, (k ∈ D ∨ look s.hp k = none) → look (s.drops D).hp k = none := by
  induction D with
  | nil => intro s k h; rcases h with h | h; · cases h
           · exact h
  | cons i D ih =>
    intro s k h
    refine ih (s := s.drop i) ?_
    rcases h with h | h
    · rcases List.mem_cons.1 h with rfl | h
      · exact .inr (look_drop s k)
      · exact .inl h
    · exact .inr (look_drop_none h)
theorem ends_iv {t : Nat} {x : IV} {s : St} (h : s.get t = .iv x) (hf : x.flat = true) (hb : (s.hp.map (·.1)).all (· < 1000) = true) : Ends true [.tmp t] (.iv x) [] s := by
  refine ⟨s.drops (s.hp.map (·.1)), [.iv x], le_drops _ hb s, ?_, rfl, fun id => ?_, fun _ => ⟨hf, fun _ _ h => by cases h⟩⟩
  · simp [resV, get_drops_iv _ h]
  · refine look_drops_none _ ?_
    cases hl : look s.hp id with
    | none => exact .inr rfl
    | some o => exact .inl (List.contains_iff_mem.1 (look_mem hl))
theorem call_pure {P : Program} {d : Nat} {f : FuncId} {ops : List Operand} {s : St} {K : St → AV → Prop} {args : List AV} {res : AV} (h : GSpec P true f args [] res [])
    (ha : (((s.drop d).args [] ops []).map ((s.drop d).arg true [])) = args) (hr : args.all (AV.inns []) = true) (hk : K (s.drop d) res) : callW P d f [] ops [] none s K := by
  refine callK_of ⟨s, Le.refl s, true, [], res, [], s.drop d, rfl, trivial, { spec := ?_, refs := ?_, sub := fun _ _ h => ?_, own := fun _ _ h => ?_, keep := fun _ _ h => ?_, new := fun _ _ h => ?_ }, hk⟩
  all_goals first | (rw [List.map_nil, ha]; assumption) | cases h
def smallH : Hp → Bool
  | [] => true
  | (i, _) :: r => decide (i < 1000) && smallH r
@[simp] theorem smallH_nil : smallH [] = true := rfl
@[simp] theorem smallH_cons {i : Nat} {o : Ob} {r : Hp} : smallH ((i, o) :: r) = (decide (i < 1000) && smallH r) := rfl
theorem smallH_all : ∀ {h : Hp}, smallH h = true → (h.map (·.1)).all (· < 1000) = true
  | [], _ => rfl
  | (i, _) :: r, h => by
    simp only [smallH, Bool.and_eq_true] at h
    simp only [List.map_cons, List.all_cons, Bool.and_eq_true]
    exact ⟨h.1, smallH_all h.2⟩
def keysB : Hp → List Nat → Bool
  | [], _ => true
  | (i, _) :: r, ks => ks.contains i && keysB r ks
@[simp] theorem keysB_nil {ks : List Nat} : keysB [] ks = true := rfl
@[simp] theorem keysB_cons {i : Nat} {o : Ob} {r : Hp} {ks : List Nat} : keysB ((i, o) :: r) ks = (ks.contains i && keysB r ks) := rfl
theorem keysB_in : ∀ {h l : Hp}, keysB h (l.map (·.1)) = true → keysIn h l = true
  | [], _, _ => rfl
  | (i, _) :: r, l, h => by
    simp only [keysB, Bool.and_eq_true] at h
    have h2 := keysB_in h.2
    unfold keysIn at h2 ⊢
    simp only [List.all_cons, Bool.and_eq_true]
    refine ⟨?_, h2⟩
    have := List.contains_iff_mem.1 h.1
    obtain ⟨q, hq, e⟩ := List.mem_map.1 this
    exact List.any_eq_true.2 ⟨q, hq, by simp [e]⟩
def keysL : Hp → List Nat
  | [] => []
  | (i, _) :: r => i :: keysL r
@[simp] theorem keysL_nil : keysL [] = [] := rfl
@[simp] theorem keysL_cons {i : Nat} {o : Ob} {r : Hp} : keysL ((i, o) :: r) = i :: keysL r := rfl
theorem keysL_eq (h : Hp) : keysL h = h.map (·.1) := by
  induction h with
  | nil => rfl
  | cons p r ih => obtain ⟨i, o⟩ := p; simp [ih]
def End1 (t : Nat) (x : IV) (s : St) : Prop := s.get t = .iv x ∧ smallH s.hp = true
def End2 (t u : Nat) (x y : IV) (s : St) : Prop := s.get t = .iv x ∧ s.get u = .iv y ∧ smallH s.hp = true
def outs (r : St → Prop) : Outs := ⟨r, fun _ _ => False, r, fun _ _ => False⟩
theorem outs_mono {P : Program} {n : Nat} {c : VCode} {s : St} {r r' : St → Prop} (h : VC P n c s (outs r)) (hr : ∀ s, r s → r' s) : VC P n c s (outs r') :=
  h.mono hr (fun _ _ h => h) hr (fun _ _ h => h)
theorem gspec1 {P : Program} {f : FuncId} {args : List AV} {x : IV} {n t : Nat} {c : VCode} (hf : fnV P f = some (n, c, [.tmp t]))
    (hargs : args.length ≤ n) (hn : n ≤ 999) (hx : x.flat = true) (h : wpV P c ⟨argFr 0 args, []⟩ ⟨End1 t x, fun _ _ => False, End1 t x, fun _ _ => False⟩) : GSpec P true f args [] (.iv x) [] :=
  gspec_of_vc hf hargs rfl rfl (outs_mono (wpV_sound hn _ _ _ h) fun _ h => ends_iv h.1 hx (smallH_all h.2))
def LeTo (D : List Nat) (s s' : St) : Prop := D.all (· < 1000) = true ∧ frLe (s.drops D) s'.fr ∧ hpLe (s.drops D).hp s'.hp ∧ keysB (s.drops D).hp (keysL s'.hp) = true
theorem LeTo.le {D : List Nat} {s s' : St} (h : LeTo D s s') : Le s s' := le_to D h.1 h.2.1 h.2.2.1 (keysB_in (by rw [← keysL_eq]; exact h.2.2.2))
theorem loop_any {P : Program} {c : VCode} {s : St} {O : Outs} (I : Nat → St → Prop) (hi : ∃ k s', Le s s' ∧ I k s')
    (hs : ∀ k s', I k s' → wpV P c s' { O with n := fun s2 => ∃ m s3, m < k ∧ Le s2 s3 ∧ I m s3 }) : loopW P c s O := ⟨I, hi, hs⟩
theorem loop_idx {P : Program} {c : VCode} {s : St} {O : Outs} (D D' : List Nat) (n : Nat) (S : Nat → St) (Q : Nat → Prop) (h0 : LeTo D s (S 0)) (q0 : Q 0)
    (hs : ∀ i, i ≤ n → Q i → wpV P c (S i) { O with n := fun s2 => i < n ∧ LeTo D' s2 (S (i + 1)) ∧ Q (i + 1) }) : loopW P c s O := by
  refine ⟨fun k s => ∃ i, i ≤ n ∧ k = n - i ∧ s = S i ∧ Q i, ⟨_, _, h0.le, 0, Nat.zero_le _, rfl, rfl, q0⟩, ?_⟩
  rintro k s' ⟨i, hi, rfl, rfl, hq⟩
  refine wpV_mono c (O := { O with n := fun s2 => i < n ∧ LeTo D' s2 (S (i + 1)) ∧ Q (i + 1) }) (fun s2 h => ?_) (fun _ _ h => h) (fun _ h => h) (fun _ _ h => h) (hs i hi hq)
  obtain ⟨hlt, hle, hq'⟩ := h
  exact ⟨_, _, by omega, hle.le, i + 1, hlt, rfl, rfl, hq'⟩
@[simp] theorem drops_nil {s : St} : s.drops [] = s := rfl
@[simp] theorem drops_cons {s : St} {i : Nat} {D : List Nat} : s.drops (i :: D) = (s.drop i).drops D := rfl
@[simp] theorem frLe_nil {s : St} : frLe s [] ↔ True := ⟨fun h => h, fun h => h⟩
@[simp] theorem frLe_cons {s : St} {t : Nat} {x : AV} {r : List (Nat × AV)} : frLe s ((t, x) :: r) ↔ s.get t = x ∧ frLe s r := ⟨fun h => h, fun h => h⟩
@[simp] theorem hpLe_nil {H : Hp} : hpLe H [] ↔ True := ⟨fun h => h, fun h => h⟩
@[simp] theorem hpLe_cons {H : Hp} {t : Nat} {x : Ob} {r : Hp} : hpLe H ((t, x) :: r) ↔ look H t = some x ∧ hpLe H r := ⟨fun h => h, fun h => h⟩
attribute [simp] End1 End2 LeTo
/-! ### Functions and calls that change what they are handed -/
def CapV.hi : CapV → Bool
  | .ptr id _ => decide (1000 ≤ id)
  | .val _ => true
def AV.hi : AV → Bool
  | .iv _ | .nil _ | .un | .junk => true
  | .sl id _ _ _ | .ptr id _ | .ep id _ _ _ | .mpr id => decide (1000 ≤ id)
  | .fn _ a b => a.all CapV.hi && b.all CapV.hi
  | .agg _ | .tup _ => false
def Ob.hi : Ob → Bool
  | .box cs => cs.all AV.hi
  | .gh _ _ cs => cs.isEmpty
  | _ => true
@[simp] theorem ohi_gh {Z : GZ} {vs : List Value} : Ob.hi (.gh Z vs []) = true := rfl
@[simp] theorem hi_iv {x : IV} : AV.hi (.iv x) = true := rfl
@[simp] theorem hi_nil {sz : Nat} : AV.hi (.nil sz) = true := rfl
@[simp] theorem hi_ptr {id off : Nat} : AV.hi (.ptr id off) = decide (1000 ≤ id) := rfl
@[simp] theorem hi_mpr {id : Nat} : AV.hi (.mpr id) = decide (1000 ≤ id) := rfl
@[simp] theorem hi_sl {id sz lo len : Nat} : AV.hi (.sl id sz lo len) = decide (1000 ≤ id) := rfl
@[simp] theorem hi_ivs {l : List IV} : (l.map AV.iv).all AV.hi = true := by simp
@[simp] theorem ohi_box {cs : List AV} : Ob.hi (.box cs) = cs.all AV.hi := rfl
@[simp] theorem ohi_list {sz : Nat} {xs : List (List IV)} : Ob.hi (.list sz xs) = true := rfl
@[simp] theorem ohi_map {sk g} : Ob.hi (.map sk g) = true := rfl
@[simp] theorem ohi_mapo {sk sz g h} : Ob.hi (.mapo sk sz g h) = true := rfl
theorem caps_hi {id : Nat} {o : Ob} (hid : id < 1000) {a : List CapV} (h : a.all CapV.hi = true) : a.map (CapV.fc id o) = a ∧ a.any (CapV.of (· == id)) = false := by
  induction a with
  | nil => exact ⟨rfl, rfl⟩
  | cons c a ih =>
    simp only [List.all_cons, Bool.and_eq_true] at h
    obtain ⟨i1, i2⟩ := ih h.2
    cases c with
    | ptr j off =>
      have hj : j ≠ id := by have := of_decide_eq_true h.1; omega
      refine ⟨?_, ?_⟩
      · simp only [List.map_cons, i1, CapV.fc, if_neg hj]
      · simp only [List.any_cons, i2, CapV.of, Bool.or_false, beq_eq_false_iff_ne]; exact hj
    | val x => exact ⟨by simp only [List.map_cons, i1, CapV.fc], by simp only [List.any_cons, i2, CapV.of, Bool.or_false]⟩
theorem gone_hi {id : Nat} {o : Ob} (hid : id < 1000) {x : AV} (h : x.hi = true) : gone id o x = x := by
  cases x with
  | agg _ => cases h
  | tup _ => cases h
  | fn f a b =>
    simp only [AV.hi, Bool.and_eq_true] at h
    obtain ⟨a1, a2⟩ := caps_hi (o := o) hid h.1
    obtain ⟨b1, b2⟩ := caps_hi (o := o) hid h.2
    simp only [gone, AV.fc, a1, b1, AV.kc, a2, b2, Bool.or_false, Bool.false_eq_true, if_false]
  | iv _ => rfl
  | nil _ => rfl
  | un => rfl
  | junk => rfl
  | _ =>
    have hj := of_decide_eq_true h
    simp only [gone, AV.fc, AV.kc]
    rw [if_neg (by omega)]
    simp only [AV.kc]
    rw [if_neg (by simp only [beq_iff_eq]; omega)]
theorem hi_mapc {id : Nat} {o q : Ob} (hid : id < 1000) (h : q.hi = true) : q.mapc (gone id o) = q := by
  cases q with
  | box cs =>
    simp only [Ob.hi, List.all_eq_true] at h
    simp only [Ob.mapc]
    congr 1
    exact List.map_congr_left (fun x hx => gone_hi hid (h x hx)) |>.trans (List.map_id _)
  | gh Z vs cs =>
    simp only [Ob.hi, List.isEmpty_iff] at h
    subst h
    rfl
  | _ => rfl
theorem look_drop_hi {s : St} {id k : Nat} {q : Ob} (hid : id < 1000) (hk : 1000 ≤ k) (hq : q.hi = true) (h : look s.hp k = some q) : look (s.drop id).hp k = some q := by
  unfold St.drop
  split
  · exact h
  · simp only [look_filter, look_mapc, h, Option.map_some]
    rw [if_neg (by omega)]
    exact congrArg some (hi_mapc hid hq)
theorem look_drops_hi (D : List Nat) (hD : D.all (· < 1000) = true) : ∀ {s : St} {k : Nat} {q : Ob}, 1000 ≤ k → q.hi = true → look s.hp k = some q → look (s.drops D).hp k = some q := by
  induction D with
  | nil => intro s k q _ _ h; exact h
  | cons i D ih =>
    intro s k q hk hq h
    simp only [List.all_cons, Bool.and_eq_true, decide_eq_true_eq] at hD
    exact ih hD.2 hk hq (look_drop_hi hD.1 hk hq h)
def hiH : Hp → Bool
  | [] => true
  | (i, o) :: r => decide (1000 ≤ i) && o.hi && hiH r
@[simp] theorem hiH_nil : hiH [] = true := rfl
@[simp] theorem hiH_cons {i : Nat} {o : Ob} {r : Hp} : hiH ((i, o) :: r) = (decide (1000 ≤ i) && o.hi && hiH r) := rfl
def ownH : Hp → List Nat → Bool
  | [], _ => true
  | (i, _) :: r, ks => (decide (i < 1000) || ks.contains i) && ownH r ks
@[simp] theorem ownH_nil {ks : List Nat} : ownH [] ks = true := rfl
@[simp] theorem ownH_cons {i : Nat} {o : Ob} {r : Hp} {ks : List Nat} : ownH ((i, o) :: r) ks = ((decide (i < 1000) || ks.contains i) && ownH r ks) := rfl
theorem look_key {α : Type} {H : List (Nat × α)} {id : Nat} {o : α} (h : look H id = some o) : id ∈ H.map (·.1) := List.contains_iff_mem.1 (look_mem h)
theorem ends_own {s : St} {H' : Hp} (h1 : hpLe s.hp H') (h2 : ownH s.hp (keysL H') = true) (h3 : hiH H' = true) :
    ∃ D : List Nat, D.all (· < 1000) = true ∧ ∀ id, look (s.drops D).hp id = look H' id := by
  have hall : ((s.hp.map (·.1)).filter (· < 1000)).all (· < 1000) = true := by simp
  have hhi : ∀ {H : Hp}, hiH H = true → ∀ id o, look H id = some o → 1000 ≤ id ∧ o.hi = true := by
    intro H
    induction H with
    | nil => intro _ id o h; cases h
    | cons p r ih =>
      obtain ⟨i, q⟩ := p
      intro h id o ho
      simp only [hiH, Bool.and_eq_true, decide_eq_true_eq] at h
      simp only [look] at ho
      split at ho
      · rename_i e; subst e; cases ho; exact h.1
      · exact ih h.2 id o ho
  have hown : ∀ {H : Hp} {ks : List Nat}, ownH H ks = true → ∀ id o, look H id = some o → id < 1000 ∨ id ∈ ks := by
    intro H ks
    induction H with
    | nil => intro _ id o h; cases h
    | cons p r ih =>
      obtain ⟨i, q⟩ := p
      intro h id o ho
      simp only [ownH, Bool.and_eq_true, Bool.or_eq_true, decide_eq_true_eq] at h
      simp only [look] at ho
      split at ho
      · rename_i e; subst e
        rcases h.1 with g | g
        · exact .inl g
        · exact .inr (List.contains_iff_mem.1 g)
      · exact ih h.2 id o ho
  refine ⟨(s.hp.map (·.1)).filter (· < 1000), hall, fun id => ?_⟩
  cases hl : look H' id with
  | some o =>
    obtain ⟨g1, g2⟩ := hhi h3 id o hl
    exact look_drops_hi _ hall g1 g2 (hpLe_mem h1 _ (look_some_mem hl))
  | none =>
    refine look_drops_none _ ?_
    cases hs : look s.hp id with
    | none => exact .inr rfl
    | some o =>
      left
      rcases hown h2 id o hs with g | g
      · exact List.mem_filter.2 ⟨look_key hs, by simpa using g⟩
      · rw [keysL_eq] at g
        obtain ⟨q, hq⟩ := look_of_mem' g
        rw [hl] at hq; cases hq
def EndM (H' : Hp) (s : St) : Prop := hpLe s.hp H' ∧ ownH s.hp (keysL H') = true ∧ hiH H' = true
def EndM1 (t : Nat) (x : IV) (H' : Hp) (s : St) : Prop := s.get t = .iv x ∧ EndM H' s
attribute [simp] EndM EndM1
theorem gspecM {P : Program} {f : FuncId} {args : List AV} {H H' : Hp} {n : Nat} {c : VCode} (hf : fnV P f = some (n, c, []))
    (hargs : args.length ≤ n) (hn : n ≤ 999) (hbig : (H.map (·.1)).all (1000 ≤ ·) = true) (hlent : ((H ++ H').all fun p => !p.2.isLent) = true)
    (h : wpV P c ⟨argFr 0 args, H⟩ ⟨EndM H', fun _ _ => False, EndM H', fun _ _ => False⟩) : GSpec P false f args H (.tup []) H' :=
  gspec_of_vc hf hargs hbig hlent (outs_mono (wpV_sound hn _ _ _ h) fun s h => by
    obtain ⟨D, g1, g2⟩ := ends_own h.1 h.2.1 h.2.2
    exact ⟨s.drops D, [], le_drops D g1 s, rfl, rfl, g2, fun h => by cases h⟩)
theorem gspecM1 {P : Program} {f : FuncId} {args : List AV} {H H' : Hp} {n t : Nat} {x : IV} {c : VCode} (hf : fnV P f = some (n, c, [.tmp t]))
    (hargs : args.length ≤ n) (hn : n ≤ 999) (hbig : (H.map (·.1)).all (1000 ≤ ·) = true) (hlent : ((H ++ H').all fun p => !p.2.isLent) = true)
    (h : wpV P c ⟨argFr 0 args, H⟩ ⟨EndM1 t x H', fun _ _ => False, EndM1 t x H', fun _ _ => False⟩) : GSpec P false f args H (.iv x) H' :=
  gspec_of_vc hf hargs hbig hlent (outs_mono (wpV_sound hn _ _ _ h) fun s h => by
    obtain ⟨D, g1, g2⟩ := ends_own h.2.1 h.2.2.1 h.2.2.2
    exact ⟨s.drops D, [.iv x], le_drops D g1 s, by simp [resV, get_drops_iv _ h.1], rfl, g2, fun h => by cases h⟩)
def keepL : Hp → Hp → Prop
  | [], _ => True
  | (id, o) :: r, H' => (∃ o', look H' id = some o' ∧ o.le o') ∧ keepL r H'
@[simp] theorem keepL_nil {H' : Hp} : keepL [] H' ↔ True := ⟨fun h => h, fun h => h⟩
@[simp] theorem keepL_cons {id : Nat} {o : Ob} {r H' : Hp} : keepL ((id, o) :: r) H' ↔ (∃ o', look H' id = some o' ∧ o.le o') ∧ keepL r H' := ⟨fun h => h, fun h => h⟩
@[simp] theorem le_box {cs : List AV} {o : Ob} : (Ob.box cs).le o := Ob.le_none rfl
@[simp] theorem le_gh {Z : GZ} {vs : List Value} {cs : List AV} {o : Ob} : (Ob.gh Z vs cs).le o := Ob.le_none rfl
@[simp] theorem le_map {sk g} {o : Ob} : (Ob.map sk g).le o := Ob.le_none rfl
@[simp] theorem le_mapo' {sk sz g h} {o : Ob} : (Ob.mapo sk sz g h).le o := Ob.le_none rfl
theorem keepL_look : ∀ {H H' : Hp}, keepL H H' → ∀ id o, look H id = some o → ∃ o', look H' id = some o' ∧ o.le o'
  | [], _, _, id, o, h => by cases h
  | (i, q) :: r, H', h, id, o, ho => by
    simp only [look] at ho
    split at ho
    · rename_i e; subst e; cases ho; exact h.1
    · exact keepL_look h.2 id o ho
theorem keysB_look : ∀ {H : Hp} {ks : List Nat}, keysB H ks = true → ∀ id o, look H id = some o → id ∈ ks
  | [], _, _, id, o, h => by cases h
  | (i, q) :: r, ks, h, id, o, ho => by
    simp only [keysB, Bool.and_eq_true] at h
    simp only [look] at ho
    split at ho
    · rename_i e; subst e; exact List.contains_iff_mem.1 h.1
    · exact keysB_look h.2 id o ho
def innsH : Hp → List Nat → Bool
  | [], _ => true
  | (_, o) :: r, ks => o.inns ks && innsH r ks
@[simp] theorem innsH_nil {ks : List Nat} : innsH [] ks = true := rfl
@[simp] theorem innsH_cons {i : Nat} {o : Ob} {r : Hp} {ks : List Nat} : innsH ((i, o) :: r) ks = (o.inns ks && innsH r ks) := rfl
@[simp] theorem inns_box {ks : List Nat} {cs : List AV} : Ob.inns ks (.box cs) = cs.all (AV.inn ks) := rfl
@[simp] theorem inns_list {ks : List Nat} {sz : Nat} {xs : List (List IV)} : Ob.inns ks (.list sz xs) = true := rfl
@[simp] theorem inns_map {ks : List Nat} {sk g} : Ob.inns ks (.map sk g) = true := rfl
@[simp] theorem inns_mapo {ks : List Nat} {sk sz g h} : Ob.inns ks (.mapo sk sz g h) = true := rfl
theorem innsH_look : ∀ {H : Hp} {ks : List Nat}, innsH H ks = true → ∀ id o, look H id = some o → o.inns ks = true
  | [], _, _, id, o, h => by cases h
  | (i, q) :: r, ks, h, id, o, ho => by
    simp only [innsH, Bool.and_eq_true] at h
    simp only [look] at ho
    split at ho
    · cases ho; exact h.1
    · exact innsH_look h.2 id o ho
theorem call_mut {P : Program} {d : Nat} {f : FuncId} {pre post : List CapV} {ops : List Operand} {y : Option Operand} {s s1 : St} {K : St → AV → Prop} {args : List AV} {res : AV} {H H' : Hp}
    (h : GSpec P false f args H res H') (hs1 : (s.frz ((s.args pre ops post).filter fun x => !x.inns (keysL H))).drop d = s1)
    (hy : ∀ z, y = some z → s1.ev z = .fn f pre post) (ha : (s1.args pre ops post).map (s1.arg false (keysL H)) = args) (hr : args.all (AV.inns (keysL H)) = true)
    (hs : hpLe s1.hp H) (ho : innsH H (keysL H) = true) (hkp : keepL H H') (hn : keysB H' (keysL H) = true) (hk : K (s1.join H') res) : callW P d f pre ops post y s K := by
  rw [keysL_eq] at *
  refine callK_of ⟨s, Le.refl s, false, H, res, H', s1, hs1.symm, ?_, { spec := ?_, refs := ?_, sub := fun id o h => hpLe_mem hs _ (look_some_mem h), own := innsH_look ho, keep := keepL_look hkp, new := fun id o h1 h2 => ?_ }, hk⟩
  · cases y with
    | none => trivial
    | some z => exact hy z rfl
  · rw [ha]; exact h
  · rw [ha]; exact hr
  · have := keysB_look hn id o h1
    obtain ⟨o', h'⟩ := look_of_mem' this
    rw [h2] at h'; cases h'
theorem call_purev {P : Program} {d : Nat} {f : FuncId} {pre post : List CapV} {ops : List Operand} {z : Operand} {s : St} {K : St → AV → Prop} {args : List AV} {res : AV} (h : GSpec P true f args [] res [])
    (hy : (s.drop d).ev z = .fn f pre post) (ha : (((s.drop d).args pre ops post).map ((s.drop d).arg true [])) = args) (hr : args.all (AV.inns []) = true) (hk : K (s.drop d) res) : callW P d f pre ops post (some z) s K := by
  refine callK_of ⟨s, Le.refl s, true, [], res, [], s.drop d, rfl, hy, { spec := ?_, refs := ?_, sub := fun _ _ h => ?_, own := fun _ _ h => ?_, keep := fun _ _ h => ?_, new := fun _ _ h => ?_ }, hk⟩
  all_goals first | (rw [List.map_nil, ha]; assumption) | cases h
@[simp] theorem kc_comp {p : Nat → Bool} : AV.kc p ∘ AV.iv = AV.iv := funext fun _ => by simp
@[simp] theorem gone_comp {id : Nat} {o : Ob} : gone id o ∘ AV.iv = AV.iv := funext fun _ => by simp
end Go.Vm
end
