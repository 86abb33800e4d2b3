/-
  NARROWER THAN 'FOR EVERY INPUT', by the rows' own cells (each row's printed sentence says how): DsgEnds: loops.
  DERIVED. THE GIVEN ROWS OF THIS SEAT. 2 by the template 'for every input the law returns true; each argument reads behind the call as it read before'; 0 by the template 'total and deterministic' (their statements: YthkdpdpgmhmgoaaTotals.lean).
  GIVEN WITH THE SEED: the statements are not yours to turn. If you find one false, say at which input.
  Laid BY PROGRAM, IN A SANDBOX (cutbox-rows.mjs): the forced cells as the released guide's own fill.sh prints them over the translation 8fea619389b5e718… (all of the seat's roots in one cut). By AI agents, Wed Nov 11 2026. No macro, syntax, notation, axiom, sorry.
-/
import Derived.Test.YthkdpdpgmhmgoaaChecked
import GoSem.Claim
import GoSem.ClaimJoined
import GoSem.ClaimMapViews
import Derived.JoinedTies
import Derived.KernelRfl
namespace Go.Proofs.Ythkdpdpgmhmgoaa
/- THE CELL 'sum', in the pinned program and in every row, IS THE sha256 OF THE DUMP (.gsa) THAT YthkdpdpgmhmgoaaProg.lean LOADS. Nothing in Lean hashes anything: it is a label: what it is worth is what the hold of that sum in a sandbox is worth. -/
noncomputable def Try.pinned : Pinned := { name := "ythkdpdpgmhmgoaa", sum := "8fea619389b5e718981f7ec422a7b646eca759e30009d0ddcccbaa465e23b0a9", checked := Try.checked }
namespace Rows
def none {H : Type} : Left H := { results := [], args := [] }

/-- 'ratlinelaw20.DsgLess': WHATEVER THE INPUT: true; the input reads as it did. -/
def dsgLessSpec : ChangeSpec := { name := "dsgLess", fn := fun _ => fun
  | [d1, d2] => { results := [.lit (.bool true)], args := [d1, d2] }
  | _ => none }
def dsgLessRow : OpenClaim := { program := "ythkdpdpgmhmgoaa", sum := "8fea619389b5e718981f7ec422a7b646eca759e30009d0ddcccbaa465e23b0a9", func := "ratline/ratlinelaw20.DsgLess", spec := "dsgLess", unfollowed := true, recurses := true, plainKeys := false, apart := false }
def DsgLessSaid : Prop := dsgLessRow.holds Try.pinned (OpenSpec.ofChange dsgLessSpec)

/-- ITS FALSE NEIGHBOUR: 'it returns false'. Refute it at one input. -/
def dsgLessWrong : ChangeSpec := { name := "dsgLess", fn := fun _ => fun
  | [d1, d2] => { results := [.lit (.bool false)], args := [d1, d2] }
  | _ => none }
def DsgLessWrongFalsely : Prop := dsgLessRow.holds Try.pinned (OpenSpec.ofChange dsgLessWrong)

/-- 'ratlinelaw20.DsgEnds': WHATEVER THE INPUT: true; the input reads as it did. -/
def dsgEndsSpec : ChangeSpec := { name := "dsgEnds", fn := fun _ => fun
  | [d] => { results := [.lit (.bool true)], args := [d] }
  | _ => none }
def dsgEndsRow : OpenClaim := { program := "ythkdpdpgmhmgoaa", sum := "8fea619389b5e718981f7ec422a7b646eca759e30009d0ddcccbaa465e23b0a9", func := "ratline/ratlinelaw20.DsgEnds", spec := "dsgEnds", unfollowed := true, recurses := true, loops := true, plainKeys := false, apart := false }
def DsgEndsSaid : Prop := dsgEndsRow.holds Try.pinned (OpenSpec.ofChange dsgEndsSpec)

/-- ITS FALSE NEIGHBOUR: 'it returns false'. Refute it at one input. -/
def dsgEndsWrong : ChangeSpec := { name := "dsgEnds", fn := fun _ => fun
  | [d] => { results := [.lit (.bool false)], args := [d] }
  | _ => none }
def DsgEndsWrongFalsely : Prop := dsgEndsRow.holds Try.pinned (OpenSpec.ofChange dsgEndsWrong)

/- THE SECOND FORM. 'bulk': how many values and letters a reading holds, each counted each time it is reached (what is shared counts as often as it is met; a slice's spare places count too). A statement '..UptoSaid' is the law's where the arguments, and the package variables that the reading takes, are together of bulk at most 1048576: NARROWER than '..Said'. Prove '..Said' where nothing that the law and all that it calls make is longer than what came in: it says more and counts as full. Else prove '..UptoSaid'. A law counts once. -/
mutual
def uptoBulk {H : Type} : DataW H → Nat
  | .lit (.string bytes) => bytes.length + 1
  | .lit _ => 1
  | .nil => 1
  | .ptr d => uptoBulk d + 1
  | .slice elems spare => uptoBulkAll elems + uptoBulkAll spare + 1
  | .agg parts => uptoBulkAll parts + 1
  | .iface _ d => uptoBulk d + 1
  | .map entries => uptoBulkEntries entries + 1
  | .held _ => 1
def uptoBulkAll {H : Type} : List (DataW H) → Nat
  | [] => 0
  | d :: r => uptoBulk d + uptoBulkAll r
def uptoBulkEntries {H : Type} : List (Lit × DataW H) → Nat
  | [] => 0
  | x :: r => uptoBulkEntry x + uptoBulkEntries r
def uptoBulkEntry {H : Type} : Lit × DataW H → Nat
  | (.string bytes, d) => bytes.length + uptoBulk d + 1
  | (_, d) => uptoBulk d + 1
 end
def uptoSmall : (H : Type) → List (DataW H) → Bool := fun _ ds => decide (uptoBulkAll ds ≤ 1048576)
def OpenSpec.upto (s : _root_.Go.ChangeSpec) : _root_.Go.OpenSpec := { _root_.Go.OpenSpec.ofChange s with cond := some uptoSmall }

/-- 'ratlinelaw20.DsgLess', WHERE WHAT IT READS IS OF BULK AT MOST 1048576: true; the input reads as it did. -/
def dsgLessUptoRow : OpenClaim := { program := "ythkdpdpgmhmgoaa", sum := "8fea619389b5e718981f7ec422a7b646eca759e30009d0ddcccbaa465e23b0a9", func := "ratline/ratlinelaw20.DsgLess", spec := "dsgLess", unfollowed := true, recurses := true, plainKeys := false, apart := false, narrowed := true }
def DsgLessUptoSaid : Prop := dsgLessUptoRow.holds Try.pinned (OpenSpec.upto dsgLessSpec)

/-- 'ratlinelaw20.DsgEnds', WHERE WHAT IT READS IS OF BULK AT MOST 1048576: true; the input reads as it did. -/
def dsgEndsUptoRow : OpenClaim := { program := "ythkdpdpgmhmgoaa", sum := "8fea619389b5e718981f7ec422a7b646eca759e30009d0ddcccbaa465e23b0a9", func := "ratline/ratlinelaw20.DsgEnds", spec := "dsgEnds", unfollowed := true, recurses := true, loops := true, plainKeys := false, apart := false, narrowed := true }
def DsgEndsUptoSaid : Prop := dsgEndsUptoRow.holds Try.pinned (OpenSpec.upto dsgEndsSpec)

end Rows
end Go.Proofs.Ythkdpdpgmhmgoaa
