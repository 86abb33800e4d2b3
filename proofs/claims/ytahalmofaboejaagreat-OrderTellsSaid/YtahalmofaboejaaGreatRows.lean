/-
  NARROWER THAN 'FOR EVERY INPUT', by the rows' own cells (each row's printed sentence says how): OrderTells: loops · DsgEdges: loops · DsgChains: loops · DsgSerial: loops · DsgOthers: loops.
  DERIVED. THE GIVEN ROWS OF THIS SEAT. 5 by the template 'for every input the law returns true; each argument reads behind the call as it read before'; 0 by the template 'total and deterministic' (their statements: YtahalmofaboejaaGreatTotals.lean).
  GIVEN WITH THE SEED: the statements are not yours to turn. If you find one false, say at which input.
  Laid BY PROGRAM, IN A SANDBOX (cutbox-rows.mjs): the forced cells as the released guide's own fill.sh prints them over the translation 54954655f23149a0… (all of the seat's roots in one cut). By AI agents, Wed Nov 11 2026. No macro, syntax, notation, axiom, sorry.
-/
import Derived.Test.YtahalmofaboejaaGreatChecked
import GoSem.Claim
import GoSem.ClaimJoined
import GoSem.ClaimMapViews
import Derived.JoinedTies
import Derived.KernelRfl
namespace Go.Proofs.YtahalmofaboejaaGreat
/- THE CELL 'sum', in the pinned program and in every row, IS THE sha256 OF THE DUMP (.gsa) THAT YtahalmofaboejaaGreatProg.lean LOADS. Nothing in Lean hashes anything: it is a label: what it is worth is what the hold of that sum in a sandbox is worth. -/
noncomputable def Tryz.pinned : Pinned := { name := "ytahalmofaboejaagreat", sum := "54954655f23149a0917ce55477bda9341f870eecd8f003ce0b0b43c4ebb77138", checked := Tryz.checked }
namespace Rows
def none {H : Type} : Left H := { results := [], args := [] }

/-- 'ratlinelaw19.OrderTells': WHATEVER THE INPUT: true; the input reads as it did. -/
def orderTellsSpec : ChangeSpec := { name := "orderTells", fn := fun _ => fun
  | [d1, d2] => { results := [.lit (.bool true)], args := [d1, d2] }
  | _ => none }
def orderTellsRow : OpenClaim := { program := "ytahalmofaboejaagreat", sum := "54954655f23149a0917ce55477bda9341f870eecd8f003ce0b0b43c4ebb77138", func := "ratline/ratlinelaw19.OrderTells", spec := "orderTells", unfollowed := true, recurses := true, loops := true, plainKeys := false, apart := false }
def OrderTellsSaid : Prop := orderTellsRow.holds Tryz.pinned (OpenSpec.ofChange orderTellsSpec)

/-- ITS FALSE NEIGHBOUR: 'it returns false'. Refute it at one input. -/
def orderTellsWrong : ChangeSpec := { name := "orderTells", fn := fun _ => fun
  | [d1, d2] => { results := [.lit (.bool false)], args := [d1, d2] }
  | _ => none }
def OrderTellsWrongFalsely : Prop := orderTellsRow.holds Tryz.pinned (OpenSpec.ofChange orderTellsWrong)

/-- 'ratlinelaw20.DsgEdges': WHATEVER THE INPUT: true; the input reads as it did. -/
def dsgEdgesSpec : ChangeSpec := { name := "dsgEdges", fn := fun _ => fun
  | [d] => { results := [.lit (.bool true)], args := [d] }
  | _ => none }
def dsgEdgesRow : OpenClaim := { program := "ytahalmofaboejaagreat", sum := "54954655f23149a0917ce55477bda9341f870eecd8f003ce0b0b43c4ebb77138", func := "ratline/ratlinelaw20.DsgEdges", spec := "dsgEdges", unfollowed := true, recurses := true, loops := true, plainKeys := false, apart := false }
def DsgEdgesSaid : Prop := dsgEdgesRow.holds Tryz.pinned (OpenSpec.ofChange dsgEdgesSpec)

/-- ITS FALSE NEIGHBOUR: 'it returns false'. Refute it at one input. -/
def dsgEdgesWrong : ChangeSpec := { name := "dsgEdges", fn := fun _ => fun
  | [d] => { results := [.lit (.bool false)], args := [d] }
  | _ => none }
def DsgEdgesWrongFalsely : Prop := dsgEdgesRow.holds Tryz.pinned (OpenSpec.ofChange dsgEdgesWrong)

/-- 'ratlinelaw20.DsgChains': WHATEVER THE INPUT: true; the input reads as it did. -/
def dsgChainsSpec : ChangeSpec := { name := "dsgChains", fn := fun _ => fun
  | [d1, d2] => { results := [.lit (.bool true)], args := [d1, d2] }
  | _ => none }
def dsgChainsRow : OpenClaim := { program := "ytahalmofaboejaagreat", sum := "54954655f23149a0917ce55477bda9341f870eecd8f003ce0b0b43c4ebb77138", func := "ratline/ratlinelaw20.DsgChains", spec := "dsgChains", unfollowed := true, recurses := true, loops := true, plainKeys := false, apart := false }
def DsgChainsSaid : Prop := dsgChainsRow.holds Tryz.pinned (OpenSpec.ofChange dsgChainsSpec)

/-- ITS FALSE NEIGHBOUR: 'it returns false'. Refute it at one input. -/
def dsgChainsWrong : ChangeSpec := { name := "dsgChains", fn := fun _ => fun
  | [d1, d2] => { results := [.lit (.bool false)], args := [d1, d2] }
  | _ => none }
def DsgChainsWrongFalsely : Prop := dsgChainsRow.holds Tryz.pinned (OpenSpec.ofChange dsgChainsWrong)

/-- 'ratlinelaw20.DsgSerial': WHATEVER THE INPUT: true; the input reads as it did. -/
def dsgSerialSpec : ChangeSpec := { name := "dsgSerial", fn := fun _ => fun
  | [d] => { results := [.lit (.bool true)], args := [d] }
  | _ => none }
def dsgSerialRow : OpenClaim := { program := "ytahalmofaboejaagreat", sum := "54954655f23149a0917ce55477bda9341f870eecd8f003ce0b0b43c4ebb77138", func := "ratline/ratlinelaw20.DsgSerial", spec := "dsgSerial", unfollowed := true, recurses := true, loops := true, plainKeys := false, apart := false }
def DsgSerialSaid : Prop := dsgSerialRow.holds Tryz.pinned (OpenSpec.ofChange dsgSerialSpec)

/-- ITS FALSE NEIGHBOUR: 'it returns false'. Refute it at one input. -/
def dsgSerialWrong : ChangeSpec := { name := "dsgSerial", fn := fun _ => fun
  | [d] => { results := [.lit (.bool false)], args := [d] }
  | _ => none }
def DsgSerialWrongFalsely : Prop := dsgSerialRow.holds Tryz.pinned (OpenSpec.ofChange dsgSerialWrong)

/-- 'ratlinelaw20.DsgOthers': WHATEVER THE INPUT: true; the input reads as it did. -/
def dsgOthersSpec : ChangeSpec := { name := "dsgOthers", fn := fun _ => fun
  | [d] => { results := [.lit (.bool true)], args := [d] }
  | _ => none }
def dsgOthersRow : OpenClaim := { program := "ytahalmofaboejaagreat", sum := "54954655f23149a0917ce55477bda9341f870eecd8f003ce0b0b43c4ebb77138", func := "ratline/ratlinelaw20.DsgOthers", spec := "dsgOthers", unfollowed := true, recurses := true, loops := true, plainKeys := false, apart := false }
def DsgOthersSaid : Prop := dsgOthersRow.holds Tryz.pinned (OpenSpec.ofChange dsgOthersSpec)

/-- ITS FALSE NEIGHBOUR: 'it returns false'. Refute it at one input. -/
def dsgOthersWrong : ChangeSpec := { name := "dsgOthers", fn := fun _ => fun
  | [d] => { results := [.lit (.bool false)], args := [d] }
  | _ => none }
def DsgOthersWrongFalsely : Prop := dsgOthersRow.holds Tryz.pinned (OpenSpec.ofChange dsgOthersWrong)

/- THE SECOND FORM. 'bulk': how many values and letters a reading holds, each counted each time it is reached (what is shared counts as often as it is met; a slice's spare places count too). A statement '..UptoSaid' is the law's where the arguments, and the package variables that the reading takes, are together of bulk at most 1048576: NARROWER than '..Said'. Prove '..Said' where nothing that the law and all that it calls make is longer than what came in: it says more and counts as full. Else prove '..UptoSaid'. A law counts once. -/
mutual
def uptoBulk {H : Type} : DataW H → Nat
  | .lit (.string bytes) => bytes.length + 1
  | .lit _ => 1
  | .nil => 1
  | .ptr d => uptoBulk d + 1
  | .slice elems spare => uptoBulkAll elems + uptoBulkAll spare + 1
  | .agg parts => uptoBulkAll parts + 1
  | .iface _ d => uptoBulk d + 1
  | .map entries => uptoBulkEntries entries + 1
  | .held _ => 1
def uptoBulkAll {H : Type} : List (DataW H) → Nat
  | [] => 0
  | d :: r => uptoBulk d + uptoBulkAll r
def uptoBulkEntries {H : Type} : List (Lit × DataW H) → Nat
  | [] => 0
  | x :: r => uptoBulkEntry x + uptoBulkEntries r
def uptoBulkEntry {H : Type} : Lit × DataW H → Nat
  | (.string bytes, d) => bytes.length + uptoBulk d + 1
  | (_, d) => uptoBulk d + 1
 end
def uptoSmall : (H : Type) → List (DataW H) → Bool := fun _ ds => decide (uptoBulkAll ds ≤ 1048576)
def OpenSpec.upto (s : _root_.Go.ChangeSpec) : _root_.Go.OpenSpec := { _root_.Go.OpenSpec.ofChange s with cond := some uptoSmall }

/-- 'ratlinelaw19.OrderTells', WHERE WHAT IT READS IS OF BULK AT MOST 1048576: true; the input reads as it did. -/
def orderTellsUptoRow : OpenClaim := { program := "ytahalmofaboejaagreat", sum := "54954655f23149a0917ce55477bda9341f870eecd8f003ce0b0b43c4ebb77138", func := "ratline/ratlinelaw19.OrderTells", spec := "orderTells", unfollowed := true, recurses := true, loops := true, plainKeys := false, apart := false, narrowed := true }
def OrderTellsUptoSaid : Prop := orderTellsUptoRow.holds Tryz.pinned (OpenSpec.upto orderTellsSpec)

/-- 'ratlinelaw20.DsgEdges', WHERE WHAT IT READS IS OF BULK AT MOST 1048576: true; the input reads as it did. -/
def dsgEdgesUptoRow : OpenClaim := { program := "ytahalmofaboejaagreat", sum := "54954655f23149a0917ce55477bda9341f870eecd8f003ce0b0b43c4ebb77138", func := "ratline/ratlinelaw20.DsgEdges", spec := "dsgEdges", unfollowed := true, recurses := true, loops := true, plainKeys := false, apart := false, narrowed := true }
def DsgEdgesUptoSaid : Prop := dsgEdgesUptoRow.holds Tryz.pinned (OpenSpec.upto dsgEdgesSpec)

/-- 'ratlinelaw20.DsgChains', WHERE WHAT IT READS IS OF BULK AT MOST 1048576: true; the input reads as it did. -/
def dsgChainsUptoRow : OpenClaim := { program := "ytahalmofaboejaagreat", sum := "54954655f23149a0917ce55477bda9341f870eecd8f003ce0b0b43c4ebb77138", func := "ratline/ratlinelaw20.DsgChains", spec := "dsgChains", unfollowed := true, recurses := true, loops := true, plainKeys := false, apart := false, narrowed := true }
def DsgChainsUptoSaid : Prop := dsgChainsUptoRow.holds Tryz.pinned (OpenSpec.upto dsgChainsSpec)

/-- 'ratlinelaw20.DsgSerial', WHERE WHAT IT READS IS OF BULK AT MOST 1048576: true; the input reads as it did. -/
def dsgSerialUptoRow : OpenClaim := { program := "ytahalmofaboejaagreat", sum := "54954655f23149a0917ce55477bda9341f870eecd8f003ce0b0b43c4ebb77138", func := "ratline/ratlinelaw20.DsgSerial", spec := "dsgSerial", unfollowed := true, recurses := true, loops := true, plainKeys := false, apart := false, narrowed := true }
def DsgSerialUptoSaid : Prop := dsgSerialUptoRow.holds Tryz.pinned (OpenSpec.upto dsgSerialSpec)

/-- 'ratlinelaw20.DsgOthers', WHERE WHAT IT READS IS OF BULK AT MOST 1048576: true; the input reads as it did. -/
def dsgOthersUptoRow : OpenClaim := { program := "ytahalmofaboejaagreat", sum := "54954655f23149a0917ce55477bda9341f870eecd8f003ce0b0b43c4ebb77138", func := "ratline/ratlinelaw20.DsgOthers", spec := "dsgOthers", unfollowed := true, recurses := true, loops := true, plainKeys := false, apart := false, narrowed := true }
def DsgOthersUptoSaid : Prop := dsgOthersUptoRow.holds Tryz.pinned (OpenSpec.upto dsgOthersSpec)

end Rows
end Go.Proofs.YtahalmofaboejaaGreat
