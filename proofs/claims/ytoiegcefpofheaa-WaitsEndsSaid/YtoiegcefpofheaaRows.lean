/-
  No cell of these rows narrows 'for every input' (looked for: loops, veiled, ifaces, maps, wideKeys, modest, calm, conditions, laid).
  DERIVED. THE GIVEN ROWS OF THIS SEAT. 6 by the template 'for every input the law returns true; each argument reads behind the call as it read before'; 0 by the template 'total and deterministic' (their statements: YtoiegcefpofheaaTotals.lean).
  GIVEN WITH THE SEED: the statements are not yours to turn. If you find one false, say at which input.
  Laid BY PROGRAM, IN A SANDBOX (cutbox-rows.mjs): the forced cells as the released guide's own fill.sh prints them over the translation a67a4fd5c6e3b478… (all of the seat's roots in one cut). By AI agents, Wed Nov 11 2026. No macro, syntax, notation, axiom, sorry.
-/
import Derived.Test.YtoiegcefpofheaaChecked
import GoSem.Claim
import GoSem.ClaimJoined
import GoSem.ClaimMapViews
import Derived.JoinedTies
import Derived.KernelRfl
namespace Go.Proofs.Ytoiegcefpofheaa
/- THE CELL 'sum', in the pinned program and in every row, IS THE sha256 OF THE DUMP (.gsa) THAT YtoiegcefpofheaaProg.lean LOADS. Nothing in Lean hashes anything: it is a label: what it is worth is what the hold of that sum in a sandbox is worth. -/
noncomputable def Try.pinned : Pinned := { name := "ytoiegcefpofheaa", sum := "a67a4fd5c6e3b4781827e2e7ba50bc38313d2a1c37c60a59cb6fde2651dccab7", checked := Try.checked }
namespace Rows
def none {H : Type} : Left H := { results := [], args := [] }

/-- 'ratlinelaw12.WaitsCycles': WHATEVER THE INPUT: true; the input reads as it did. -/
def waitsCyclesSpec : ChangeSpec := { name := "waitsCycles", fn := fun _ => fun
  | [d1, d2] => { results := [.lit (.bool true)], args := [d1, d2] }
  | _ => none }
def waitsCyclesRow : OpenClaim := { program := "ytoiegcefpofheaa", sum := "a67a4fd5c6e3b4781827e2e7ba50bc38313d2a1c37c60a59cb6fde2651dccab7", func := "ratline/ratlinelaw12.WaitsCycles", spec := "waitsCycles", unfollowed := true, recurses := true, apart := false }
def WaitsCyclesSaid : Prop := waitsCyclesRow.holds Try.pinned (OpenSpec.ofChange waitsCyclesSpec)

/-- ITS FALSE NEIGHBOUR: 'it returns false'. Refute it at one input. -/
def waitsCyclesWrong : ChangeSpec := { name := "waitsCycles", fn := fun _ => fun
  | [d1, d2] => { results := [.lit (.bool false)], args := [d1, d2] }
  | _ => none }
def WaitsCyclesWrongFalsely : Prop := waitsCyclesRow.holds Try.pinned (OpenSpec.ofChange waitsCyclesWrong)

/-- 'ratlinelaw12.WaitsStuck': WHATEVER THE INPUT: true; the input reads as it did. -/
def waitsStuckSpec : ChangeSpec := { name := "waitsStuck", fn := fun _ => fun
  | [d] => { results := [.lit (.bool true)], args := [d] }
  | _ => none }
def waitsStuckRow : OpenClaim := { program := "ytoiegcefpofheaa", sum := "a67a4fd5c6e3b4781827e2e7ba50bc38313d2a1c37c60a59cb6fde2651dccab7", func := "ratline/ratlinelaw12.WaitsStuck", spec := "waitsStuck", unfollowed := true, recurses := true, apart := false }
def WaitsStuckSaid : Prop := waitsStuckRow.holds Try.pinned (OpenSpec.ofChange waitsStuckSpec)

/-- ITS FALSE NEIGHBOUR: 'it returns false'. Refute it at one input. -/
def waitsStuckWrong : ChangeSpec := { name := "waitsStuck", fn := fun _ => fun
  | [d] => { results := [.lit (.bool false)], args := [d] }
  | _ => none }
def WaitsStuckWrongFalsely : Prop := waitsStuckRow.holds Try.pinned (OpenSpec.ofChange waitsStuckWrong)

/-- 'ratlinelaw12.WaitsVictims': WHATEVER THE INPUT: true; the input reads as it did. -/
def waitsVictimsSpec : ChangeSpec := { name := "waitsVictims", fn := fun _ => fun
  | [d1, d2] => { results := [.lit (.bool true)], args := [d1, d2] }
  | _ => none }
def waitsVictimsRow : OpenClaim := { program := "ytoiegcefpofheaa", sum := "a67a4fd5c6e3b4781827e2e7ba50bc38313d2a1c37c60a59cb6fde2651dccab7", func := "ratline/ratlinelaw12.WaitsVictims", spec := "waitsVictims", unfollowed := true, recurses := true, apart := false }
def WaitsVictimsSaid : Prop := waitsVictimsRow.holds Try.pinned (OpenSpec.ofChange waitsVictimsSpec)

/-- ITS FALSE NEIGHBOUR: 'it returns false'. Refute it at one input. -/
def waitsVictimsWrong : ChangeSpec := { name := "waitsVictims", fn := fun _ => fun
  | [d1, d2] => { results := [.lit (.bool false)], args := [d1, d2] }
  | _ => none }
def WaitsVictimsWrongFalsely : Prop := waitsVictimsRow.holds Try.pinned (OpenSpec.ofChange waitsVictimsWrong)

/-- 'ratlinelaw12.WaitsGoes': WHATEVER THE INPUT: true; the input reads as it did. -/
def waitsGoesSpec : ChangeSpec := { name := "waitsGoes", fn := fun _ => fun
  | [d1, d2, d3] => { results := [.lit (.bool true)], args := [d1, d2, d3] }
  | _ => none }
def waitsGoesRow : OpenClaim := { program := "ytoiegcefpofheaa", sum := "a67a4fd5c6e3b4781827e2e7ba50bc38313d2a1c37c60a59cb6fde2651dccab7", func := "ratline/ratlinelaw12.WaitsGoes", spec := "waitsGoes", unfollowed := true, recurses := true, apart := false }
def WaitsGoesSaid : Prop := waitsGoesRow.holds Try.pinned (OpenSpec.ofChange waitsGoesSpec)

/-- ITS FALSE NEIGHBOUR: 'it returns false'. Refute it at one input. -/
def waitsGoesWrong : ChangeSpec := { name := "waitsGoes", fn := fun _ => fun
  | [d1, d2, d3] => { results := [.lit (.bool false)], args := [d1, d2, d3] }
  | _ => none }
def WaitsGoesWrongFalsely : Prop := waitsGoesRow.holds Try.pinned (OpenSpec.ofChange waitsGoesWrong)

/-- 'ratlinelaw12.WaitsEnds': WHATEVER THE INPUT: true; the input reads as it did. -/
def waitsEndsSpec : ChangeSpec := { name := "waitsEnds", fn := fun _ => fun
  | [d1, d2] => { results := [.lit (.bool true)], args := [d1, d2] }
  | _ => none }
def waitsEndsRow : OpenClaim := { program := "ytoiegcefpofheaa", sum := "a67a4fd5c6e3b4781827e2e7ba50bc38313d2a1c37c60a59cb6fde2651dccab7", func := "ratline/ratlinelaw12.WaitsEnds", spec := "waitsEnds", unfollowed := true, recurses := true, apart := false }
def WaitsEndsSaid : Prop := waitsEndsRow.holds Try.pinned (OpenSpec.ofChange waitsEndsSpec)

/-- ITS FALSE NEIGHBOUR: 'it returns false'. Refute it at one input. -/
def waitsEndsWrong : ChangeSpec := { name := "waitsEnds", fn := fun _ => fun
  | [d1, d2] => { results := [.lit (.bool false)], args := [d1, d2] }
  | _ => none }
def WaitsEndsWrongFalsely : Prop := waitsEndsRow.holds Try.pinned (OpenSpec.ofChange waitsEndsWrong)

/-- 'ratlinelaw12.WaitsFree': WHATEVER THE INPUT: true; the input reads as it did. -/
def waitsFreeSpec : ChangeSpec := { name := "waitsFree", fn := fun _ => fun
  | [d1, d2, d3] => { results := [.lit (.bool true)], args := [d1, d2, d3] }
  | _ => none }
def waitsFreeRow : OpenClaim := { program := "ytoiegcefpofheaa", sum := "a67a4fd5c6e3b4781827e2e7ba50bc38313d2a1c37c60a59cb6fde2651dccab7", func := "ratline/ratlinelaw12.WaitsFree", spec := "waitsFree", unfollowed := true, recurses := true, apart := false }
def WaitsFreeSaid : Prop := waitsFreeRow.holds Try.pinned (OpenSpec.ofChange waitsFreeSpec)

/-- ITS FALSE NEIGHBOUR: 'it returns false'. Refute it at one input. -/
def waitsFreeWrong : ChangeSpec := { name := "waitsFree", fn := fun _ => fun
  | [d1, d2, d3] => { results := [.lit (.bool false)], args := [d1, d2, d3] }
  | _ => none }
def WaitsFreeWrongFalsely : Prop := waitsFreeRow.holds Try.pinned (OpenSpec.ofChange waitsFreeWrong)

/- THE SECOND FORM. 'bulk': how many values and letters a reading holds, each counted each time it is reached (what is shared counts as often as it is met; a slice's spare places count too). A statement '..UptoSaid' is the law's where the arguments, and the package variables that the reading takes, are together of bulk at most 1048576: NARROWER than '..Said'. Prove '..Said' where nothing that the law and all that it calls make is longer than what came in: it says more and counts as full. Else prove '..UptoSaid'. A law counts once. -/
mutual
def uptoBulk {H : Type} : DataW H → Nat
  | .lit (.string bytes) => bytes.length + 1
  | .lit _ => 1
  | .nil => 1
  | .ptr d => uptoBulk d + 1
  | .slice elems spare => uptoBulkAll elems + uptoBulkAll spare + 1
  | .agg parts => uptoBulkAll parts + 1
  | .iface _ d => uptoBulk d + 1
  | .map entries => uptoBulkEntries entries + 1
  | .held _ => 1
def uptoBulkAll {H : Type} : List (DataW H) → Nat
  | [] => 0
  | d :: r => uptoBulk d + uptoBulkAll r
def uptoBulkEntries {H : Type} : List (Lit × DataW H) → Nat
  | [] => 0
  | x :: r => uptoBulkEntry x + uptoBulkEntries r
def uptoBulkEntry {H : Type} : Lit × DataW H → Nat
  | (.string bytes, d) => bytes.length + uptoBulk d + 1
  | (_, d) => uptoBulk d + 1
 end
def uptoSmall : (H : Type) → List (DataW H) → Bool := fun _ ds => decide (uptoBulkAll ds ≤ 1048576)
def OpenSpec.upto (s : _root_.Go.ChangeSpec) : _root_.Go.OpenSpec := { _root_.Go.OpenSpec.ofChange s with cond := some uptoSmall }

/-- 'ratlinelaw12.WaitsCycles', WHERE WHAT IT READS IS OF BULK AT MOST 1048576: true; the input reads as it did. -/
def waitsCyclesUptoRow : OpenClaim := { program := "ytoiegcefpofheaa", sum := "a67a4fd5c6e3b4781827e2e7ba50bc38313d2a1c37c60a59cb6fde2651dccab7", func := "ratline/ratlinelaw12.WaitsCycles", spec := "waitsCycles", unfollowed := true, recurses := true, apart := false, narrowed := true }
def WaitsCyclesUptoSaid : Prop := waitsCyclesUptoRow.holds Try.pinned (OpenSpec.upto waitsCyclesSpec)

/-- 'ratlinelaw12.WaitsStuck', WHERE WHAT IT READS IS OF BULK AT MOST 1048576: true; the input reads as it did. -/
def waitsStuckUptoRow : OpenClaim := { program := "ytoiegcefpofheaa", sum := "a67a4fd5c6e3b4781827e2e7ba50bc38313d2a1c37c60a59cb6fde2651dccab7", func := "ratline/ratlinelaw12.WaitsStuck", spec := "waitsStuck", unfollowed := true, recurses := true, apart := false, narrowed := true }
def WaitsStuckUptoSaid : Prop := waitsStuckUptoRow.holds Try.pinned (OpenSpec.upto waitsStuckSpec)

/-- 'ratlinelaw12.WaitsVictims', WHERE WHAT IT READS IS OF BULK AT MOST 1048576: true; the input reads as it did. -/
def waitsVictimsUptoRow : OpenClaim := { program := "ytoiegcefpofheaa", sum := "a67a4fd5c6e3b4781827e2e7ba50bc38313d2a1c37c60a59cb6fde2651dccab7", func := "ratline/ratlinelaw12.WaitsVictims", spec := "waitsVictims", unfollowed := true, recurses := true, apart := false, narrowed := true }
def WaitsVictimsUptoSaid : Prop := waitsVictimsUptoRow.holds Try.pinned (OpenSpec.upto waitsVictimsSpec)

/-- 'ratlinelaw12.WaitsGoes', WHERE WHAT IT READS IS OF BULK AT MOST 1048576: true; the input reads as it did. -/
def waitsGoesUptoRow : OpenClaim := { program := "ytoiegcefpofheaa", sum := "a67a4fd5c6e3b4781827e2e7ba50bc38313d2a1c37c60a59cb6fde2651dccab7", func := "ratline/ratlinelaw12.WaitsGoes", spec := "waitsGoes", unfollowed := true, recurses := true, apart := false, narrowed := true }
def WaitsGoesUptoSaid : Prop := waitsGoesUptoRow.holds Try.pinned (OpenSpec.upto waitsGoesSpec)

/-- 'ratlinelaw12.WaitsEnds', WHERE WHAT IT READS IS OF BULK AT MOST 1048576: true; the input reads as it did. -/
def waitsEndsUptoRow : OpenClaim := { program := "ytoiegcefpofheaa", sum := "a67a4fd5c6e3b4781827e2e7ba50bc38313d2a1c37c60a59cb6fde2651dccab7", func := "ratline/ratlinelaw12.WaitsEnds", spec := "waitsEnds", unfollowed := true, recurses := true, apart := false, narrowed := true }
def WaitsEndsUptoSaid : Prop := waitsEndsUptoRow.holds Try.pinned (OpenSpec.upto waitsEndsSpec)

/-- 'ratlinelaw12.WaitsFree', WHERE WHAT IT READS IS OF BULK AT MOST 1048576: true; the input reads as it did. -/
def waitsFreeUptoRow : OpenClaim := { program := "ytoiegcefpofheaa", sum := "a67a4fd5c6e3b4781827e2e7ba50bc38313d2a1c37c60a59cb6fde2651dccab7", func := "ratline/ratlinelaw12.WaitsFree", spec := "waitsFree", unfollowed := true, recurses := true, apart := false, narrowed := true }
def WaitsFreeUptoSaid : Prop := waitsFreeUptoRow.holds Try.pinned (OpenSpec.upto waitsFreeSpec)

end Rows
end Go.Proofs.Ytoiegcefpofheaa
