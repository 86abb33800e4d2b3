/-
  No cell of these rows narrows 'for every input' (looked for: loops, veiled, ifaces, maps, wideKeys, modest, calm, conditions, laid).
  DERIVED. THE GIVEN ROWS OF THIS SEAT. 5 by the template 'for every input the law returns true; each argument reads behind the call as it read before'; 0 by the template 'total and deterministic' (their statements: YtaongilgapocfaaTotals.lean).
  GIVEN WITH THE SEED: the statements are not yours to turn. If you find one false, say at which input.
  Laid BY PROGRAM, IN A SANDBOX (cutbox-rows.mjs): the forced cells as the released guide's own fill.sh prints them over the translation a4908fcc3feb50d5… (all of the seat's roots in one cut). By AI agents, Wed Nov 11 2026. No macro, syntax, notation, axiom, sorry.
-/
import Derived.Test.YtaongilgapocfaaChecked
import GoSem.Claim
import GoSem.ClaimJoined
import GoSem.ClaimMapViews
import Derived.JoinedTies
import Derived.KernelRfl
namespace Go.Proofs.Ytaongilgapocfaa
/- THE CELL 'sum', in the pinned program and in every row, IS THE sha256 OF THE DUMP (.gsa) THAT YtaongilgapocfaaProg.lean LOADS. Nothing in Lean hashes anything: it is a label: what it is worth is what the hold of that sum in a sandbox is worth. -/
noncomputable def Try.pinned : Pinned := { name := "ytaongilgapocfaa", sum := "a4908fcc3feb50d551739c2dfe53467603d727b8075446c5c21c7b67548bd151", checked := Try.checked }
namespace Rows
def none {H : Type} : Left H := { results := [], args := [] }

/-- 'ratlinelaw21.CycleFinds': WHATEVER THE INPUT: true; the input reads as it did. -/
def cycleFindsSpec : ChangeSpec := { name := "cycleFinds", fn := fun _ => fun
  | [d1, d2] => { results := [.lit (.bool true)], args := [d1, d2] }
  | _ => none }
def cycleFindsRow : OpenClaim := { program := "ytaongilgapocfaa", sum := "a4908fcc3feb50d551739c2dfe53467603d727b8075446c5c21c7b67548bd151", func := "ratline/ratlinelaw21.CycleFinds", spec := "cycleFinds", unfollowed := true, recurses := true, apart := false }
def CycleFindsSaid : Prop := cycleFindsRow.holds Try.pinned (OpenSpec.ofChange cycleFindsSpec)

/-- ITS FALSE NEIGHBOUR: 'it returns false'. Refute it at one input. -/
def cycleFindsWrong : ChangeSpec := { name := "cycleFinds", fn := fun _ => fun
  | [d1, d2] => { results := [.lit (.bool false)], args := [d1, d2] }
  | _ => none }
def CycleFindsWrongFalsely : Prop := cycleFindsRow.holds Try.pinned (OpenSpec.ofChange cycleFindsWrong)

/-- 'ratlinelaw21.CycleRows': WHATEVER THE INPUT: true; the input reads as it did. -/
def cycleRowsSpec : ChangeSpec := { name := "cycleRows", fn := fun _ => fun
  | [d1, d2] => { results := [.lit (.bool true)], args := [d1, d2] }
  | _ => none }
def cycleRowsRow : OpenClaim := { program := "ytaongilgapocfaa", sum := "a4908fcc3feb50d551739c2dfe53467603d727b8075446c5c21c7b67548bd151", func := "ratline/ratlinelaw21.CycleRows", spec := "cycleRows", unfollowed := true, recurses := true, apart := false }
def CycleRowsSaid : Prop := cycleRowsRow.holds Try.pinned (OpenSpec.ofChange cycleRowsSpec)

/-- ITS FALSE NEIGHBOUR: 'it returns false'. Refute it at one input. -/
def cycleRowsWrong : ChangeSpec := { name := "cycleRows", fn := fun _ => fun
  | [d1, d2] => { results := [.lit (.bool false)], args := [d1, d2] }
  | _ => none }
def CycleRowsWrongFalsely : Prop := cycleRowsRow.holds Try.pinned (OpenSpec.ofChange cycleRowsWrong)

/-- 'ratlinelaw21.CycleGoes': WHATEVER THE INPUT: true; the input reads as it did. -/
def cycleGoesSpec : ChangeSpec := { name := "cycleGoes", fn := fun _ => fun
  | [d] => { results := [.lit (.bool true)], args := [d] }
  | _ => none }
def cycleGoesRow : OpenClaim := { program := "ytaongilgapocfaa", sum := "a4908fcc3feb50d551739c2dfe53467603d727b8075446c5c21c7b67548bd151", func := "ratline/ratlinelaw21.CycleGoes", spec := "cycleGoes", unfollowed := true, recurses := true, apart := false }
def CycleGoesSaid : Prop := cycleGoesRow.holds Try.pinned (OpenSpec.ofChange cycleGoesSpec)

/-- ITS FALSE NEIGHBOUR: 'it returns false'. Refute it at one input. -/
def cycleGoesWrong : ChangeSpec := { name := "cycleGoes", fn := fun _ => fun
  | [d] => { results := [.lit (.bool false)], args := [d] }
  | _ => none }
def CycleGoesWrongFalsely : Prop := cycleGoesRow.holds Try.pinned (OpenSpec.ofChange cycleGoesWrong)

/-- 'ratlinelaw21.CycleSorts': WHATEVER THE INPUT: true; the input reads as it did. -/
def cycleSortsSpec : ChangeSpec := { name := "cycleSorts", fn := fun _ => fun
  | [d1, d2] => { results := [.lit (.bool true)], args := [d1, d2] }
  | _ => none }
def cycleSortsRow : OpenClaim := { program := "ytaongilgapocfaa", sum := "a4908fcc3feb50d551739c2dfe53467603d727b8075446c5c21c7b67548bd151", func := "ratline/ratlinelaw21.CycleSorts", spec := "cycleSorts", unfollowed := true, recurses := true, apart := false }
def CycleSortsSaid : Prop := cycleSortsRow.holds Try.pinned (OpenSpec.ofChange cycleSortsSpec)

/-- ITS FALSE NEIGHBOUR: 'it returns false'. Refute it at one input. -/
def cycleSortsWrong : ChangeSpec := { name := "cycleSorts", fn := fun _ => fun
  | [d1, d2] => { results := [.lit (.bool false)], args := [d1, d2] }
  | _ => none }
def CycleSortsWrongFalsely : Prop := cycleSortsRow.holds Try.pinned (OpenSpec.ofChange cycleSortsWrong)

/-- 'ratlinelaw21.CycleTurns': WHATEVER THE INPUT: true; the input reads as it did. -/
def cycleTurnsSpec : ChangeSpec := { name := "cycleTurns", fn := fun _ => fun
  | [d1, d2] => { results := [.lit (.bool true)], args := [d1, d2] }
  | _ => none }
def cycleTurnsRow : OpenClaim := { program := "ytaongilgapocfaa", sum := "a4908fcc3feb50d551739c2dfe53467603d727b8075446c5c21c7b67548bd151", func := "ratline/ratlinelaw21.CycleTurns", spec := "cycleTurns", unfollowed := true, recurses := true, apart := false }
def CycleTurnsSaid : Prop := cycleTurnsRow.holds Try.pinned (OpenSpec.ofChange cycleTurnsSpec)

/-- ITS FALSE NEIGHBOUR: 'it returns false'. Refute it at one input. -/
def cycleTurnsWrong : ChangeSpec := { name := "cycleTurns", fn := fun _ => fun
  | [d1, d2] => { results := [.lit (.bool false)], args := [d1, d2] }
  | _ => none }
def CycleTurnsWrongFalsely : Prop := cycleTurnsRow.holds Try.pinned (OpenSpec.ofChange cycleTurnsWrong)

/- THE SECOND FORM. 'bulk': how many values and letters a reading holds, each counted each time it is reached (what is shared counts as often as it is met; a slice's spare places count too). A statement '..UptoSaid' is the law's where the arguments, and the package variables that the reading takes, are together of bulk at most 1048576: NARROWER than '..Said'. Prove '..Said' where nothing that the law and all that it calls make is longer than what came in: it says more and counts as full. Else prove '..UptoSaid'. A law counts once. -/
mutual
def uptoBulk {H : Type} : DataW H → Nat
  | .lit (.string bytes) => bytes.length + 1
  | .lit _ => 1
  | .nil => 1
  | .ptr d => uptoBulk d + 1
  | .slice elems spare => uptoBulkAll elems + uptoBulkAll spare + 1
  | .agg parts => uptoBulkAll parts + 1
  | .iface _ d => uptoBulk d + 1
  | .map entries => uptoBulkEntries entries + 1
  | .held _ => 1
def uptoBulkAll {H : Type} : List (DataW H) → Nat
  | [] => 0
  | d :: r => uptoBulk d + uptoBulkAll r
def uptoBulkEntries {H : Type} : List (Lit × DataW H) → Nat
  | [] => 0
  | x :: r => uptoBulkEntry x + uptoBulkEntries r
def uptoBulkEntry {H : Type} : Lit × DataW H → Nat
  | (.string bytes, d) => bytes.length + uptoBulk d + 1
  | (_, d) => uptoBulk d + 1
 end
def uptoSmall : (H : Type) → List (DataW H) → Bool := fun _ ds => decide (uptoBulkAll ds ≤ 1048576)
def OpenSpec.upto (s : _root_.Go.ChangeSpec) : _root_.Go.OpenSpec := { _root_.Go.OpenSpec.ofChange s with cond := some uptoSmall }

/-- 'ratlinelaw21.CycleFinds', WHERE WHAT IT READS IS OF BULK AT MOST 1048576: true; the input reads as it did. -/
def cycleFindsUptoRow : OpenClaim := { program := "ytaongilgapocfaa", sum := "a4908fcc3feb50d551739c2dfe53467603d727b8075446c5c21c7b67548bd151", func := "ratline/ratlinelaw21.CycleFinds", spec := "cycleFinds", unfollowed := true, recurses := true, apart := false, narrowed := true }
def CycleFindsUptoSaid : Prop := cycleFindsUptoRow.holds Try.pinned (OpenSpec.upto cycleFindsSpec)

/-- 'ratlinelaw21.CycleRows', WHERE WHAT IT READS IS OF BULK AT MOST 1048576: true; the input reads as it did. -/
def cycleRowsUptoRow : OpenClaim := { program := "ytaongilgapocfaa", sum := "a4908fcc3feb50d551739c2dfe53467603d727b8075446c5c21c7b67548bd151", func := "ratline/ratlinelaw21.CycleRows", spec := "cycleRows", unfollowed := true, recurses := true, apart := false, narrowed := true }
def CycleRowsUptoSaid : Prop := cycleRowsUptoRow.holds Try.pinned (OpenSpec.upto cycleRowsSpec)

/-- 'ratlinelaw21.CycleGoes', WHERE WHAT IT READS IS OF BULK AT MOST 1048576: true; the input reads as it did. -/
def cycleGoesUptoRow : OpenClaim := { program := "ytaongilgapocfaa", sum := "a4908fcc3feb50d551739c2dfe53467603d727b8075446c5c21c7b67548bd151", func := "ratline/ratlinelaw21.CycleGoes", spec := "cycleGoes", unfollowed := true, recurses := true, apart := false, narrowed := true }
def CycleGoesUptoSaid : Prop := cycleGoesUptoRow.holds Try.pinned (OpenSpec.upto cycleGoesSpec)

/-- 'ratlinelaw21.CycleSorts', WHERE WHAT IT READS IS OF BULK AT MOST 1048576: true; the input reads as it did. -/
def cycleSortsUptoRow : OpenClaim := { program := "ytaongilgapocfaa", sum := "a4908fcc3feb50d551739c2dfe53467603d727b8075446c5c21c7b67548bd151", func := "ratline/ratlinelaw21.CycleSorts", spec := "cycleSorts", unfollowed := true, recurses := true, apart := false, narrowed := true }
def CycleSortsUptoSaid : Prop := cycleSortsUptoRow.holds Try.pinned (OpenSpec.upto cycleSortsSpec)

/-- 'ratlinelaw21.CycleTurns', WHERE WHAT IT READS IS OF BULK AT MOST 1048576: true; the input reads as it did. -/
def cycleTurnsUptoRow : OpenClaim := { program := "ytaongilgapocfaa", sum := "a4908fcc3feb50d551739c2dfe53467603d727b8075446c5c21c7b67548bd151", func := "ratline/ratlinelaw21.CycleTurns", spec := "cycleTurns", unfollowed := true, recurses := true, apart := false, narrowed := true }
def CycleTurnsUptoSaid : Prop := cycleTurnsUptoRow.holds Try.pinned (OpenSpec.upto cycleTurnsSpec)

end Rows
end Go.Proofs.Ytaongilgapocfaa
