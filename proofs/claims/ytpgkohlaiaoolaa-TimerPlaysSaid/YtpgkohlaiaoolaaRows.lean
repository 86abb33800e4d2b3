/-
  No cell of these rows narrows 'for every input' (looked for: loops, veiled, ifaces, maps, wideKeys, modest, calm, conditions, laid).
  DERIVED. THE GIVEN ROWS OF THIS SEAT. 5 by the template 'for every input the law returns true; each argument reads behind the call as it read before'; 0 by the template 'total and deterministic' (their statements: YtpgkohlaiaoolaaTotals.lean).
  GIVEN WITH THE SEED: the statements are not yours to turn. If you find one false, say at which input.
  Laid BY PROGRAM, IN A SANDBOX (cutbox-rows.mjs): the forced cells as the released guide's own fill.sh prints them over the translation 12f330d535a2e5b9… (all of the seat's roots in one cut). By AI agents, Wed Nov 11 2026. No macro, syntax, notation, axiom, sorry.
-/
import Derived.Test.YtpgkohlaiaoolaaChecked
import GoSem.Claim
import GoSem.ClaimJoined
import GoSem.ClaimMapViews
import Derived.JoinedTies
import Derived.KernelRfl
namespace Go.Proofs.Ytpgkohlaiaoolaa
/- THE CELL 'sum', in the pinned program and in every row, IS THE sha256 OF THE DUMP (.gsa) THAT YtpgkohlaiaoolaaProg.lean LOADS. Nothing in Lean hashes anything: it is a label: what it is worth is what the hold of that sum in a sandbox is worth. -/
noncomputable def Try.pinned : Pinned := { name := "ytpgkohlaiaoolaa", sum := "12f330d535a2e5b98b0648e800d645ae3a9ae42869d98486b1adf181e0ce511b", checked := Try.checked }
namespace Rows
def none {H : Type} : Left H := { results := [], args := [] }

/-- 'ratlinelaw13.TimerPlays': WHATEVER THE INPUT: true; the input reads as it did. -/
def timerPlaysSpec : ChangeSpec := { name := "timerPlays", fn := fun _ => fun
  | [d1, d2] => { results := [.lit (.bool true)], args := [d1, d2] }
  | _ => none }
def timerPlaysRow : OpenClaim := { program := "ytpgkohlaiaoolaa", sum := "12f330d535a2e5b98b0648e800d645ae3a9ae42869d98486b1adf181e0ce511b", func := "ratline/ratlinelaw13.TimerPlays", spec := "timerPlays", unfollowed := true, recurses := true, apart := false }
def TimerPlaysSaid : Prop := timerPlaysRow.holds Try.pinned (OpenSpec.ofChange timerPlaysSpec)

/-- ITS FALSE NEIGHBOUR: 'it returns false'. Refute it at one input. -/
def timerPlaysWrong : ChangeSpec := { name := "timerPlays", fn := fun _ => fun
  | [d1, d2] => { results := [.lit (.bool false)], args := [d1, d2] }
  | _ => none }
def TimerPlaysWrongFalsely : Prop := timerPlaysRow.holds Try.pinned (OpenSpec.ofChange timerPlaysWrong)

/-- 'ratlinelaw13.TimerDue': WHATEVER THE INPUT: true; the input reads as it did. -/
def timerDueSpec : ChangeSpec := { name := "timerDue", fn := fun _ => fun
  | [d1, d2, d3] => { results := [.lit (.bool true)], args := [d1, d2, d3] }
  | _ => none }
def timerDueRow : OpenClaim := { program := "ytpgkohlaiaoolaa", sum := "12f330d535a2e5b98b0648e800d645ae3a9ae42869d98486b1adf181e0ce511b", func := "ratline/ratlinelaw13.TimerDue", spec := "timerDue", unfollowed := true, recurses := true, apart := false }
def TimerDueSaid : Prop := timerDueRow.holds Try.pinned (OpenSpec.ofChange timerDueSpec)

/-- ITS FALSE NEIGHBOUR: 'it returns false'. Refute it at one input. -/
def timerDueWrong : ChangeSpec := { name := "timerDue", fn := fun _ => fun
  | [d1, d2, d3] => { results := [.lit (.bool false)], args := [d1, d2, d3] }
  | _ => none }
def TimerDueWrongFalsely : Prop := timerDueRow.holds Try.pinned (OpenSpec.ofChange timerDueWrong)

/-- 'ratlinelaw13.TimerNone': WHATEVER THE INPUT: true; the input reads as it did. -/
def timerNoneSpec : ChangeSpec := { name := "timerNone", fn := fun _ => fun
  | [d1, d2] => { results := [.lit (.bool true)], args := [d1, d2] }
  | _ => none }
def timerNoneRow : OpenClaim := { program := "ytpgkohlaiaoolaa", sum := "12f330d535a2e5b98b0648e800d645ae3a9ae42869d98486b1adf181e0ce511b", func := "ratline/ratlinelaw13.TimerNone", spec := "timerNone", unfollowed := true, recurses := true, apart := false }
def TimerNoneSaid : Prop := timerNoneRow.holds Try.pinned (OpenSpec.ofChange timerNoneSpec)

/-- ITS FALSE NEIGHBOUR: 'it returns false'. Refute it at one input. -/
def timerNoneWrong : ChangeSpec := { name := "timerNone", fn := fun _ => fun
  | [d1, d2] => { results := [.lit (.bool false)], args := [d1, d2] }
  | _ => none }
def TimerNoneWrongFalsely : Prop := timerNoneRow.holds Try.pinned (OpenSpec.ofChange timerNoneWrong)

/-- 'ratlinelaw13.TimerApart': WHATEVER THE INPUT: true; the input reads as it did. -/
def timerApartSpec : ChangeSpec := { name := "timerApart", fn := fun _ => fun
  | [d1, d2, d3] => { results := [.lit (.bool true)], args := [d1, d2, d3] }
  | _ => none }
def timerApartRow : OpenClaim := { program := "ytpgkohlaiaoolaa", sum := "12f330d535a2e5b98b0648e800d645ae3a9ae42869d98486b1adf181e0ce511b", func := "ratline/ratlinelaw13.TimerApart", spec := "timerApart", unfollowed := true, recurses := true, apart := false }
def TimerApartSaid : Prop := timerApartRow.holds Try.pinned (OpenSpec.ofChange timerApartSpec)

/-- ITS FALSE NEIGHBOUR: 'it returns false'. Refute it at one input. -/
def timerApartWrong : ChangeSpec := { name := "timerApart", fn := fun _ => fun
  | [d1, d2, d3] => { results := [.lit (.bool false)], args := [d1, d2, d3] }
  | _ => none }
def TimerApartWrongFalsely : Prop := timerApartRow.holds Try.pinned (OpenSpec.ofChange timerApartWrong)

/-- 'ratlinelaw13.TimerOrders': WHATEVER THE INPUT: true; the input reads as it did. -/
def timerOrdersSpec : ChangeSpec := { name := "timerOrders", fn := fun _ => fun
  | [d1, d2, d3] => { results := [.lit (.bool true)], args := [d1, d2, d3] }
  | _ => none }
def timerOrdersRow : OpenClaim := { program := "ytpgkohlaiaoolaa", sum := "12f330d535a2e5b98b0648e800d645ae3a9ae42869d98486b1adf181e0ce511b", func := "ratline/ratlinelaw13.TimerOrders", spec := "timerOrders", unfollowed := true, recurses := true, apart := false }
def TimerOrdersSaid : Prop := timerOrdersRow.holds Try.pinned (OpenSpec.ofChange timerOrdersSpec)

/-- ITS FALSE NEIGHBOUR: 'it returns false'. Refute it at one input. -/
def timerOrdersWrong : ChangeSpec := { name := "timerOrders", fn := fun _ => fun
  | [d1, d2, d3] => { results := [.lit (.bool false)], args := [d1, d2, d3] }
  | _ => none }
def TimerOrdersWrongFalsely : Prop := timerOrdersRow.holds Try.pinned (OpenSpec.ofChange timerOrdersWrong)

/- THE SECOND FORM. 'bulk': how many values and letters a reading holds, each counted each time it is reached (what is shared counts as often as it is met; a slice's spare places count too). A statement '..UptoSaid' is the law's where the arguments, and the package variables that the reading takes, are together of bulk at most 1048576: NARROWER than '..Said'. Prove '..Said' where nothing that the law and all that it calls make is longer than what came in: it says more and counts as full. Else prove '..UptoSaid'. A law counts once. -/
mutual
def uptoBulk {H : Type} : DataW H → Nat
  | .lit (.string bytes) => bytes.length + 1
  | .lit _ => 1
  | .nil => 1
  | .ptr d => uptoBulk d + 1
  | .slice elems spare => uptoBulkAll elems + uptoBulkAll spare + 1
  | .agg parts => uptoBulkAll parts + 1
  | .iface _ d => uptoBulk d + 1
  | .map entries => uptoBulkEntries entries + 1
  | .held _ => 1
def uptoBulkAll {H : Type} : List (DataW H) → Nat
  | [] => 0
  | d :: r => uptoBulk d + uptoBulkAll r
def uptoBulkEntries {H : Type} : List (Lit × DataW H) → Nat
  | [] => 0
  | x :: r => uptoBulkEntry x + uptoBulkEntries r
def uptoBulkEntry {H : Type} : Lit × DataW H → Nat
  | (.string bytes, d) => bytes.length + uptoBulk d + 1
  | (_, d) => uptoBulk d + 1
 end
def uptoSmall : (H : Type) → List (DataW H) → Bool := fun _ ds => decide (uptoBulkAll ds ≤ 1048576)
def OpenSpec.upto (s : _root_.Go.ChangeSpec) : _root_.Go.OpenSpec := { _root_.Go.OpenSpec.ofChange s with cond := some uptoSmall }

/-- 'ratlinelaw13.TimerPlays', WHERE WHAT IT READS IS OF BULK AT MOST 1048576: true; the input reads as it did. -/
def timerPlaysUptoRow : OpenClaim := { program := "ytpgkohlaiaoolaa", sum := "12f330d535a2e5b98b0648e800d645ae3a9ae42869d98486b1adf181e0ce511b", func := "ratline/ratlinelaw13.TimerPlays", spec := "timerPlays", unfollowed := true, recurses := true, apart := false, narrowed := true }
def TimerPlaysUptoSaid : Prop := timerPlaysUptoRow.holds Try.pinned (OpenSpec.upto timerPlaysSpec)

/-- 'ratlinelaw13.TimerDue', WHERE WHAT IT READS IS OF BULK AT MOST 1048576: true; the input reads as it did. -/
def timerDueUptoRow : OpenClaim := { program := "ytpgkohlaiaoolaa", sum := "12f330d535a2e5b98b0648e800d645ae3a9ae42869d98486b1adf181e0ce511b", func := "ratline/ratlinelaw13.TimerDue", spec := "timerDue", unfollowed := true, recurses := true, apart := false, narrowed := true }
def TimerDueUptoSaid : Prop := timerDueUptoRow.holds Try.pinned (OpenSpec.upto timerDueSpec)

/-- 'ratlinelaw13.TimerNone', WHERE WHAT IT READS IS OF BULK AT MOST 1048576: true; the input reads as it did. -/
def timerNoneUptoRow : OpenClaim := { program := "ytpgkohlaiaoolaa", sum := "12f330d535a2e5b98b0648e800d645ae3a9ae42869d98486b1adf181e0ce511b", func := "ratline/ratlinelaw13.TimerNone", spec := "timerNone", unfollowed := true, recurses := true, apart := false, narrowed := true }
def TimerNoneUptoSaid : Prop := timerNoneUptoRow.holds Try.pinned (OpenSpec.upto timerNoneSpec)

/-- 'ratlinelaw13.TimerApart', WHERE WHAT IT READS IS OF BULK AT MOST 1048576: true; the input reads as it did. -/
def timerApartUptoRow : OpenClaim := { program := "ytpgkohlaiaoolaa", sum := "12f330d535a2e5b98b0648e800d645ae3a9ae42869d98486b1adf181e0ce511b", func := "ratline/ratlinelaw13.TimerApart", spec := "timerApart", unfollowed := true, recurses := true, apart := false, narrowed := true }
def TimerApartUptoSaid : Prop := timerApartUptoRow.holds Try.pinned (OpenSpec.upto timerApartSpec)

/-- 'ratlinelaw13.TimerOrders', WHERE WHAT IT READS IS OF BULK AT MOST 1048576: true; the input reads as it did. -/
def timerOrdersUptoRow : OpenClaim := { program := "ytpgkohlaiaoolaa", sum := "12f330d535a2e5b98b0648e800d645ae3a9ae42869d98486b1adf181e0ce511b", func := "ratline/ratlinelaw13.TimerOrders", spec := "timerOrders", unfollowed := true, recurses := true, apart := false, narrowed := true }
def TimerOrdersUptoSaid : Prop := timerOrdersUptoRow.holds Try.pinned (OpenSpec.upto timerOrdersSpec)

end Rows
end Go.Proofs.Ytpgkohlaiaoolaa
