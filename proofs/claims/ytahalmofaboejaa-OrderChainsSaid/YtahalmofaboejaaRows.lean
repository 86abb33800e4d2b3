/-
  NARROWER THAN 'FOR EVERY INPUT', by the rows' own cells (each row's printed sentence says how): OrderChanges: loops · OrderFinds: loops · OrderChains: loops · OrderNone: loops · DsgEnds: loops.
  DERIVED. THE GIVEN ROWS OF THIS SEAT. 6 by the template 'for every input the law returns true; each argument reads behind the call as it read before'; 0 by the template 'total and deterministic' (their statements: YtahalmofaboejaaTotals.lean).
  GIVEN WITH THE SEED: the statements are not yours to turn. If you find one false, say at which input.
  Laid BY PROGRAM, IN A SANDBOX (cutbox-rows.mjs): the forced cells as the released guide's own fill.sh prints them over the translation 4fa8d7553846eb71… (all of the seat's roots in one cut). By AI agents, Wed Nov 11 2026. No macro, syntax, notation, axiom, sorry.
-/
import Derived.Test.YtahalmofaboejaaChecked
import GoSem.Claim
import GoSem.ClaimJoined
import GoSem.ClaimMapViews
import Derived.JoinedTies
import Derived.KernelRfl
namespace Go.Proofs.Ytahalmofaboejaa
/- THE CELL 'sum', in the pinned program and in every row, IS THE sha256 OF THE DUMP (.gsa) THAT YtahalmofaboejaaProg.lean LOADS. Nothing in Lean hashes anything: it is a label: what it is worth is what the hold of that sum in a sandbox is worth. -/
noncomputable def Try.pinned : Pinned := { name := "ytahalmofaboejaa", sum := "4fa8d7553846eb718a02d84d43650ad250f999503c8c96d19680314f48095ad6", checked := Try.checked }
namespace Rows
def none {H : Type} : Left H := { results := [], args := [] }

/-- 'ratlinelaw19.OrderChanges': WHATEVER THE INPUT: true; the input reads as it did. -/
def orderChangesSpec : ChangeSpec := { name := "orderChanges", fn := fun _ => fun
  | [d1, d2, d3] => { results := [.lit (.bool true)], args := [d1, d2, d3] }
  | _ => none }
def orderChangesRow : OpenClaim := { program := "ytahalmofaboejaa", sum := "4fa8d7553846eb718a02d84d43650ad250f999503c8c96d19680314f48095ad6", func := "ratline/ratlinelaw19.OrderChanges", spec := "orderChanges", unfollowed := true, recurses := true, loops := true, plainKeys := false, apart := false }
def OrderChangesSaid : Prop := orderChangesRow.holds Try.pinned (OpenSpec.ofChange orderChangesSpec)

/-- ITS FALSE NEIGHBOUR: 'it returns false'. Refute it at one input. -/
def orderChangesWrong : ChangeSpec := { name := "orderChanges", fn := fun _ => fun
  | [d1, d2, d3] => { results := [.lit (.bool false)], args := [d1, d2, d3] }
  | _ => none }
def OrderChangesWrongFalsely : Prop := orderChangesRow.holds Try.pinned (OpenSpec.ofChange orderChangesWrong)

/-- 'ratlinelaw19.OrderFinds': WHATEVER THE INPUT: true; the input reads as it did. -/
def orderFindsSpec : ChangeSpec := { name := "orderFinds", fn := fun _ => fun
  | [d] => { results := [.lit (.bool true)], args := [d] }
  | _ => none }
def orderFindsRow : OpenClaim := { program := "ytahalmofaboejaa", sum := "4fa8d7553846eb718a02d84d43650ad250f999503c8c96d19680314f48095ad6", func := "ratline/ratlinelaw19.OrderFinds", spec := "orderFinds", unfollowed := true, recurses := true, loops := true, plainKeys := false, apart := false }
def OrderFindsSaid : Prop := orderFindsRow.holds Try.pinned (OpenSpec.ofChange orderFindsSpec)

/-- ITS FALSE NEIGHBOUR: 'it returns false'. Refute it at one input. -/
def orderFindsWrong : ChangeSpec := { name := "orderFinds", fn := fun _ => fun
  | [d] => { results := [.lit (.bool false)], args := [d] }
  | _ => none }
def OrderFindsWrongFalsely : Prop := orderFindsRow.holds Try.pinned (OpenSpec.ofChange orderFindsWrong)

/-- 'ratlinelaw19.OrderChains': WHATEVER THE INPUT: true; the input reads as it did. -/
def orderChainsSpec : ChangeSpec := { name := "orderChains", fn := fun _ => fun
  | [d1, d2] => { results := [.lit (.bool true)], args := [d1, d2] }
  | _ => none }
def orderChainsRow : OpenClaim := { program := "ytahalmofaboejaa", sum := "4fa8d7553846eb718a02d84d43650ad250f999503c8c96d19680314f48095ad6", func := "ratline/ratlinelaw19.OrderChains", spec := "orderChains", unfollowed := true, recurses := true, loops := true, plainKeys := false, apart := false }
def OrderChainsSaid : Prop := orderChainsRow.holds Try.pinned (OpenSpec.ofChange orderChainsSpec)

/-- ITS FALSE NEIGHBOUR: 'it returns false'. Refute it at one input. -/
def orderChainsWrong : ChangeSpec := { name := "orderChains", fn := fun _ => fun
  | [d1, d2] => { results := [.lit (.bool false)], args := [d1, d2] }
  | _ => none }
def OrderChainsWrongFalsely : Prop := orderChainsRow.holds Try.pinned (OpenSpec.ofChange orderChainsWrong)

/-- 'ratlinelaw19.OrderNone': WHATEVER THE INPUT: true; the input reads as it did. -/
def orderNoneSpec : ChangeSpec := { name := "orderNone", fn := fun _ => fun
  | [d] => { results := [.lit (.bool true)], args := [d] }
  | _ => none }
def orderNoneRow : OpenClaim := { program := "ytahalmofaboejaa", sum := "4fa8d7553846eb718a02d84d43650ad250f999503c8c96d19680314f48095ad6", func := "ratline/ratlinelaw19.OrderNone", spec := "orderNone", unfollowed := true, recurses := true, loops := true, plainKeys := false, apart := false }
def OrderNoneSaid : Prop := orderNoneRow.holds Try.pinned (OpenSpec.ofChange orderNoneSpec)

/-- ITS FALSE NEIGHBOUR: 'it returns false'. Refute it at one input. -/
def orderNoneWrong : ChangeSpec := { name := "orderNone", fn := fun _ => fun
  | [d] => { results := [.lit (.bool false)], args := [d] }
  | _ => none }
def OrderNoneWrongFalsely : Prop := orderNoneRow.holds Try.pinned (OpenSpec.ofChange orderNoneWrong)

/-- 'ratlinelaw20.DsgLess': WHATEVER THE INPUT: true; the input reads as it did. -/
def dsgLessSpec : ChangeSpec := { name := "dsgLess", fn := fun _ => fun
  | [d1, d2] => { results := [.lit (.bool true)], args := [d1, d2] }
  | _ => none }
def dsgLessRow : OpenClaim := { program := "ytahalmofaboejaa", sum := "4fa8d7553846eb718a02d84d43650ad250f999503c8c96d19680314f48095ad6", func := "ratline/ratlinelaw20.DsgLess", spec := "dsgLess", unfollowed := true, recurses := true, plainKeys := false, apart := false }
def DsgLessSaid : Prop := dsgLessRow.holds Try.pinned (OpenSpec.ofChange dsgLessSpec)

/-- ITS FALSE NEIGHBOUR: 'it returns false'. Refute it at one input. -/
def dsgLessWrong : ChangeSpec := { name := "dsgLess", fn := fun _ => fun
  | [d1, d2] => { results := [.lit (.bool false)], args := [d1, d2] }
  | _ => none }
def DsgLessWrongFalsely : Prop := dsgLessRow.holds Try.pinned (OpenSpec.ofChange dsgLessWrong)

/-- 'ratlinelaw20.DsgEnds': WHATEVER THE INPUT: true; the input reads as it did. -/
def dsgEndsSpec : ChangeSpec := { name := "dsgEnds", fn := fun _ => fun
  | [d] => { results := [.lit (.bool true)], args := [d] }
  | _ => none }
def dsgEndsRow : OpenClaim := { program := "ytahalmofaboejaa", sum := "4fa8d7553846eb718a02d84d43650ad250f999503c8c96d19680314f48095ad6", func := "ratline/ratlinelaw20.DsgEnds", spec := "dsgEnds", unfollowed := true, recurses := true, loops := true, plainKeys := false, apart := false }
def DsgEndsSaid : Prop := dsgEndsRow.holds Try.pinned (OpenSpec.ofChange dsgEndsSpec)

/-- ITS FALSE NEIGHBOUR: 'it returns false'. Refute it at one input. -/
def dsgEndsWrong : ChangeSpec := { name := "dsgEnds", fn := fun _ => fun
  | [d] => { results := [.lit (.bool false)], args := [d] }
  | _ => none }
def DsgEndsWrongFalsely : Prop := dsgEndsRow.holds Try.pinned (OpenSpec.ofChange dsgEndsWrong)

/- THE SECOND FORM. 'bulk': how many values and letters a reading holds, each counted each time it is reached (what is shared counts as often as it is met; a slice's spare places count too). A statement '..UptoSaid' is the law's where the arguments, and the package variables that the reading takes, are together of bulk at most 1048576: NARROWER than '..Said'. Prove '..Said' where nothing that the law and all that it calls make is longer than what came in: it says more and counts as full. Else prove '..UptoSaid'. A law counts once. -/
mutual
def uptoBulk {H : Type} : DataW H → Nat
  | .lit (.string bytes) => bytes.length + 1
  | .lit _ => 1
  | .nil => 1
  | .ptr d => uptoBulk d + 1
  | .slice elems spare => uptoBulkAll elems + uptoBulkAll spare + 1
  | .agg parts => uptoBulkAll parts + 1
  | .iface _ d => uptoBulk d + 1
  | .map entries => uptoBulkEntries entries + 1
  | .held _ => 1
def uptoBulkAll {H : Type} : List (DataW H) → Nat
  | [] => 0
  | d :: r => uptoBulk d + uptoBulkAll r
def uptoBulkEntries {H : Type} : List (Lit × DataW H) → Nat
  | [] => 0
  | x :: r => uptoBulkEntry x + uptoBulkEntries r
def uptoBulkEntry {H : Type} : Lit × DataW H → Nat
  | (.string bytes, d) => bytes.length + uptoBulk d + 1
  | (_, d) => uptoBulk d + 1
 end
def uptoSmall : (H : Type) → List (DataW H) → Bool := fun _ ds => decide (uptoBulkAll ds ≤ 1048576)
def OpenSpec.upto (s : _root_.Go.ChangeSpec) : _root_.Go.OpenSpec := { _root_.Go.OpenSpec.ofChange s with cond := some uptoSmall }

/-- 'ratlinelaw19.OrderChanges', WHERE WHAT IT READS IS OF BULK AT MOST 1048576: true; the input reads as it did. -/
def orderChangesUptoRow : OpenClaim := { program := "ytahalmofaboejaa", sum := "4fa8d7553846eb718a02d84d43650ad250f999503c8c96d19680314f48095ad6", func := "ratline/ratlinelaw19.OrderChanges", spec := "orderChanges", unfollowed := true, recurses := true, loops := true, plainKeys := false, apart := false, narrowed := true }
def OrderChangesUptoSaid : Prop := orderChangesUptoRow.holds Try.pinned (OpenSpec.upto orderChangesSpec)

/-- 'ratlinelaw19.OrderFinds', WHERE WHAT IT READS IS OF BULK AT MOST 1048576: true; the input reads as it did. -/
def orderFindsUptoRow : OpenClaim := { program := "ytahalmofaboejaa", sum := "4fa8d7553846eb718a02d84d43650ad250f999503c8c96d19680314f48095ad6", func := "ratline/ratlinelaw19.OrderFinds", spec := "orderFinds", unfollowed := true, recurses := true, loops := true, plainKeys := false, apart := false, narrowed := true }
def OrderFindsUptoSaid : Prop := orderFindsUptoRow.holds Try.pinned (OpenSpec.upto orderFindsSpec)

/-- 'ratlinelaw19.OrderChains', WHERE WHAT IT READS IS OF BULK AT MOST 1048576: true; the input reads as it did. -/
def orderChainsUptoRow : OpenClaim := { program := "ytahalmofaboejaa", sum := "4fa8d7553846eb718a02d84d43650ad250f999503c8c96d19680314f48095ad6", func := "ratline/ratlinelaw19.OrderChains", spec := "orderChains", unfollowed := true, recurses := true, loops := true, plainKeys := false, apart := false, narrowed := true }
def OrderChainsUptoSaid : Prop := orderChainsUptoRow.holds Try.pinned (OpenSpec.upto orderChainsSpec)

/-- 'ratlinelaw19.OrderNone', WHERE WHAT IT READS IS OF BULK AT MOST 1048576: true; the input reads as it did. -/
def orderNoneUptoRow : OpenClaim := { program := "ytahalmofaboejaa", sum := "4fa8d7553846eb718a02d84d43650ad250f999503c8c96d19680314f48095ad6", func := "ratline/ratlinelaw19.OrderNone", spec := "orderNone", unfollowed := true, recurses := true, loops := true, plainKeys := false, apart := false, narrowed := true }
def OrderNoneUptoSaid : Prop := orderNoneUptoRow.holds Try.pinned (OpenSpec.upto orderNoneSpec)

/-- 'ratlinelaw20.DsgLess', WHERE WHAT IT READS IS OF BULK AT MOST 1048576: true; the input reads as it did. -/
def dsgLessUptoRow : OpenClaim := { program := "ytahalmofaboejaa", sum := "4fa8d7553846eb718a02d84d43650ad250f999503c8c96d19680314f48095ad6", func := "ratline/ratlinelaw20.DsgLess", spec := "dsgLess", unfollowed := true, recurses := true, plainKeys := false, apart := false, narrowed := true }
def DsgLessUptoSaid : Prop := dsgLessUptoRow.holds Try.pinned (OpenSpec.upto dsgLessSpec)

/-- 'ratlinelaw20.DsgEnds', WHERE WHAT IT READS IS OF BULK AT MOST 1048576: true; the input reads as it did. -/
def dsgEndsUptoRow : OpenClaim := { program := "ytahalmofaboejaa", sum := "4fa8d7553846eb718a02d84d43650ad250f999503c8c96d19680314f48095ad6", func := "ratline/ratlinelaw20.DsgEnds", spec := "dsgEnds", unfollowed := true, recurses := true, loops := true, plainKeys := false, apart := false, narrowed := true }
def DsgEndsUptoSaid : Prop := dsgEndsUptoRow.holds Try.pinned (OpenSpec.upto dsgEndsSpec)

end Rows
end Go.Proofs.Ytahalmofaboejaa
