/-
  NARROWER THAN 'FOR EVERY INPUT', by the rows' own cells (each row's printed sentence says how): DsgEdges: loops · DsgChains: loops · DsgSerial: loops · DsgOthers: loops · PhenomCycles: loops · PhenomWitness: loops · PhenomRungs: loops · PhenomAlone: loops · PhenomReads: loops · PhenomLevels: loops · MixingCorrects: loops · MixingRows: loops · MixingLowers: loops · MixingGraphs: loops · MixingLevels: loops.
  DERIVED. THE GIVEN ROWS OF THIS SEAT. 15 by the template 'for every input the law returns true; each argument reads behind the call as it read before'; 0 by the template 'total and deterministic' (their statements: YthkdpdpgmhmgoaaGreatTotals.lean).
  GIVEN WITH THE SEED: the statements are not yours to turn. If you find one false, say at which input.
  Laid BY PROGRAM, IN A SANDBOX (cutbox-rows.mjs): the forced cells as the released guide's own fill.sh prints them over the translation bfc70bd3e9fa903c… (all of the seat's roots in one cut). By AI agents, Wed Nov 11 2026. No macro, syntax, notation, axiom, sorry.
-/
import Derived.Test.YthkdpdpgmhmgoaaGreatChecked
import GoSem.Claim
import GoSem.ClaimJoined
import GoSem.ClaimMapViews
import Derived.JoinedTies
import Derived.KernelRfl
namespace Go.Proofs.YthkdpdpgmhmgoaaGreat
/- THE CELL 'sum', in the pinned program and in every row, IS THE sha256 OF THE DUMP (.gsa) THAT YthkdpdpgmhmgoaaGreatProg.lean LOADS. Nothing in Lean hashes anything: it is a label: what it is worth is what the hold of that sum in a sandbox is worth. -/
noncomputable def Tryz.pinned : Pinned := { name := "ythkdpdpgmhmgoaagreat", sum := "bfc70bd3e9fa903c541183b7e410e559013b0360b97cdc8f54bb25513cf60e13", checked := Tryz.checked }
namespace Rows
def none {H : Type} : Left H := { results := [], args := [] }

/-- 'ratlinelaw20.DsgEdges': WHATEVER THE INPUT: true; the input reads as it did. -/
def dsgEdgesSpec : ChangeSpec := { name := "dsgEdges", fn := fun _ => fun
  | [d] => { results := [.lit (.bool true)], args := [d] }
  | _ => none }
def dsgEdgesRow : OpenClaim := { program := "ythkdpdpgmhmgoaagreat", sum := "bfc70bd3e9fa903c541183b7e410e559013b0360b97cdc8f54bb25513cf60e13", func := "ratline/ratlinelaw20.DsgEdges", spec := "dsgEdges", unfollowed := true, recurses := true, loops := true, plainKeys := false, apart := false }
def DsgEdgesSaid : Prop := dsgEdgesRow.holds Tryz.pinned (OpenSpec.ofChange dsgEdgesSpec)

/-- ITS FALSE NEIGHBOUR: 'it returns false'. Refute it at one input. -/
def dsgEdgesWrong : ChangeSpec := { name := "dsgEdges", fn := fun _ => fun
  | [d] => { results := [.lit (.bool false)], args := [d] }
  | _ => none }
def DsgEdgesWrongFalsely : Prop := dsgEdgesRow.holds Tryz.pinned (OpenSpec.ofChange dsgEdgesWrong)

/-- 'ratlinelaw20.DsgChains': WHATEVER THE INPUT: true; the input reads as it did. -/
def dsgChainsSpec : ChangeSpec := { name := "dsgChains", fn := fun _ => fun
  | [d1, d2] => { results := [.lit (.bool true)], args := [d1, d2] }
  | _ => none }
def dsgChainsRow : OpenClaim := { program := "ythkdpdpgmhmgoaagreat", sum := "bfc70bd3e9fa903c541183b7e410e559013b0360b97cdc8f54bb25513cf60e13", func := "ratline/ratlinelaw20.DsgChains", spec := "dsgChains", unfollowed := true, recurses := true, loops := true, plainKeys := false, apart := false }
def DsgChainsSaid : Prop := dsgChainsRow.holds Tryz.pinned (OpenSpec.ofChange dsgChainsSpec)

/-- ITS FALSE NEIGHBOUR: 'it returns false'. Refute it at one input. -/
def dsgChainsWrong : ChangeSpec := { name := "dsgChains", fn := fun _ => fun
  | [d1, d2] => { results := [.lit (.bool false)], args := [d1, d2] }
  | _ => none }
def DsgChainsWrongFalsely : Prop := dsgChainsRow.holds Tryz.pinned (OpenSpec.ofChange dsgChainsWrong)

/-- 'ratlinelaw20.DsgSerial': WHATEVER THE INPUT: true; the input reads as it did. -/
def dsgSerialSpec : ChangeSpec := { name := "dsgSerial", fn := fun _ => fun
  | [d] => { results := [.lit (.bool true)], args := [d] }
  | _ => none }
def dsgSerialRow : OpenClaim := { program := "ythkdpdpgmhmgoaagreat", sum := "bfc70bd3e9fa903c541183b7e410e559013b0360b97cdc8f54bb25513cf60e13", func := "ratline/ratlinelaw20.DsgSerial", spec := "dsgSerial", unfollowed := true, recurses := true, loops := true, plainKeys := false, apart := false }
def DsgSerialSaid : Prop := dsgSerialRow.holds Tryz.pinned (OpenSpec.ofChange dsgSerialSpec)

/-- ITS FALSE NEIGHBOUR: 'it returns false'. Refute it at one input. -/
def dsgSerialWrong : ChangeSpec := { name := "dsgSerial", fn := fun _ => fun
  | [d] => { results := [.lit (.bool false)], args := [d] }
  | _ => none }
def DsgSerialWrongFalsely : Prop := dsgSerialRow.holds Tryz.pinned (OpenSpec.ofChange dsgSerialWrong)

/-- 'ratlinelaw20.DsgOthers': WHATEVER THE INPUT: true; the input reads as it did. -/
def dsgOthersSpec : ChangeSpec := { name := "dsgOthers", fn := fun _ => fun
  | [d] => { results := [.lit (.bool true)], args := [d] }
  | _ => none }
def dsgOthersRow : OpenClaim := { program := "ythkdpdpgmhmgoaagreat", sum := "bfc70bd3e9fa903c541183b7e410e559013b0360b97cdc8f54bb25513cf60e13", func := "ratline/ratlinelaw20.DsgOthers", spec := "dsgOthers", unfollowed := true, recurses := true, loops := true, plainKeys := false, apart := false }
def DsgOthersSaid : Prop := dsgOthersRow.holds Tryz.pinned (OpenSpec.ofChange dsgOthersSpec)

/-- ITS FALSE NEIGHBOUR: 'it returns false'. Refute it at one input. -/
def dsgOthersWrong : ChangeSpec := { name := "dsgOthers", fn := fun _ => fun
  | [d] => { results := [.lit (.bool false)], args := [d] }
  | _ => none }
def DsgOthersWrongFalsely : Prop := dsgOthersRow.holds Tryz.pinned (OpenSpec.ofChange dsgOthersWrong)

/-- 'ratlinelaw22.PhenomCycles': WHATEVER THE INPUT: true; the input reads as it did. -/
def phenomCyclesSpec : ChangeSpec := { name := "phenomCycles", fn := fun _ => fun
  | [d] => { results := [.lit (.bool true)], args := [d] }
  | _ => none }
def phenomCyclesRow : OpenClaim := { program := "ythkdpdpgmhmgoaagreat", sum := "bfc70bd3e9fa903c541183b7e410e559013b0360b97cdc8f54bb25513cf60e13", func := "ratline/ratlinelaw22.PhenomCycles", spec := "phenomCycles", unfollowed := true, recurses := true, loops := true, plainKeys := false, apart := false }
def PhenomCyclesSaid : Prop := phenomCyclesRow.holds Tryz.pinned (OpenSpec.ofChange phenomCyclesSpec)

/-- ITS FALSE NEIGHBOUR: 'it returns false'. Refute it at one input. -/
def phenomCyclesWrong : ChangeSpec := { name := "phenomCycles", fn := fun _ => fun
  | [d] => { results := [.lit (.bool false)], args := [d] }
  | _ => none }
def PhenomCyclesWrongFalsely : Prop := phenomCyclesRow.holds Tryz.pinned (OpenSpec.ofChange phenomCyclesWrong)

/-- 'ratlinelaw22.PhenomWitness': WHATEVER THE INPUT: true; the input reads as it did. -/
def phenomWitnessSpec : ChangeSpec := { name := "phenomWitness", fn := fun _ => fun
  | [d] => { results := [.lit (.bool true)], args := [d] }
  | _ => none }
def phenomWitnessRow : OpenClaim := { program := "ythkdpdpgmhmgoaagreat", sum := "bfc70bd3e9fa903c541183b7e410e559013b0360b97cdc8f54bb25513cf60e13", func := "ratline/ratlinelaw22.PhenomWitness", spec := "phenomWitness", unfollowed := true, recurses := true, loops := true, plainKeys := false, apart := false }
def PhenomWitnessSaid : Prop := phenomWitnessRow.holds Tryz.pinned (OpenSpec.ofChange phenomWitnessSpec)

/-- ITS FALSE NEIGHBOUR: 'it returns false'. Refute it at one input. -/
def phenomWitnessWrong : ChangeSpec := { name := "phenomWitness", fn := fun _ => fun
  | [d] => { results := [.lit (.bool false)], args := [d] }
  | _ => none }
def PhenomWitnessWrongFalsely : Prop := phenomWitnessRow.holds Tryz.pinned (OpenSpec.ofChange phenomWitnessWrong)

/-- 'ratlinelaw22.PhenomRungs': WHATEVER THE INPUT: true; the input reads as it did. -/
def phenomRungsSpec : ChangeSpec := { name := "phenomRungs", fn := fun _ => fun
  | [d] => { results := [.lit (.bool true)], args := [d] }
  | _ => none }
def phenomRungsRow : OpenClaim := { program := "ythkdpdpgmhmgoaagreat", sum := "bfc70bd3e9fa903c541183b7e410e559013b0360b97cdc8f54bb25513cf60e13", func := "ratline/ratlinelaw22.PhenomRungs", spec := "phenomRungs", unfollowed := true, recurses := true, loops := true, plainKeys := false, apart := false }
def PhenomRungsSaid : Prop := phenomRungsRow.holds Tryz.pinned (OpenSpec.ofChange phenomRungsSpec)

/-- ITS FALSE NEIGHBOUR: 'it returns false'. Refute it at one input. -/
def phenomRungsWrong : ChangeSpec := { name := "phenomRungs", fn := fun _ => fun
  | [d] => { results := [.lit (.bool false)], args := [d] }
  | _ => none }
def PhenomRungsWrongFalsely : Prop := phenomRungsRow.holds Tryz.pinned (OpenSpec.ofChange phenomRungsWrong)

/-- 'ratlinelaw22.PhenomAlone': WHATEVER THE INPUT: true; the input reads as it did. -/
def phenomAloneSpec : ChangeSpec := { name := "phenomAlone", fn := fun _ => fun
  | [d] => { results := [.lit (.bool true)], args := [d] }
  | _ => none }
def phenomAloneRow : OpenClaim := { program := "ythkdpdpgmhmgoaagreat", sum := "bfc70bd3e9fa903c541183b7e410e559013b0360b97cdc8f54bb25513cf60e13", func := "ratline/ratlinelaw22.PhenomAlone", spec := "phenomAlone", unfollowed := true, recurses := true, loops := true, plainKeys := false, apart := false }
def PhenomAloneSaid : Prop := phenomAloneRow.holds Tryz.pinned (OpenSpec.ofChange phenomAloneSpec)

/-- ITS FALSE NEIGHBOUR: 'it returns false'. Refute it at one input. -/
def phenomAloneWrong : ChangeSpec := { name := "phenomAlone", fn := fun _ => fun
  | [d] => { results := [.lit (.bool false)], args := [d] }
  | _ => none }
def PhenomAloneWrongFalsely : Prop := phenomAloneRow.holds Tryz.pinned (OpenSpec.ofChange phenomAloneWrong)

/-- 'ratlinelaw22.PhenomReads': WHATEVER THE INPUT: true; the input reads as it did. -/
def phenomReadsSpec : ChangeSpec := { name := "phenomReads", fn := fun _ => fun
  | [d1, d2] => { results := [.lit (.bool true)], args := [d1, d2] }
  | _ => none }
def phenomReadsRow : OpenClaim := { program := "ythkdpdpgmhmgoaagreat", sum := "bfc70bd3e9fa903c541183b7e410e559013b0360b97cdc8f54bb25513cf60e13", func := "ratline/ratlinelaw22.PhenomReads", spec := "phenomReads", unfollowed := true, recurses := true, loops := true, plainKeys := false, apart := false }
def PhenomReadsSaid : Prop := phenomReadsRow.holds Tryz.pinned (OpenSpec.ofChange phenomReadsSpec)

/-- ITS FALSE NEIGHBOUR: 'it returns false'. Refute it at one input. -/
def phenomReadsWrong : ChangeSpec := { name := "phenomReads", fn := fun _ => fun
  | [d1, d2] => { results := [.lit (.bool false)], args := [d1, d2] }
  | _ => none }
def PhenomReadsWrongFalsely : Prop := phenomReadsRow.holds Tryz.pinned (OpenSpec.ofChange phenomReadsWrong)

/-- 'ratlinelaw22.PhenomLevels': WHATEVER THE INPUT: true; the input reads as it did. -/
def phenomLevelsSpec : ChangeSpec := { name := "phenomLevels", fn := fun _ => fun
  | [d1, d2, d3] => { results := [.lit (.bool true)], args := [d1, d2, d3] }
  | _ => none }
def phenomLevelsRow : OpenClaim := { program := "ythkdpdpgmhmgoaagreat", sum := "bfc70bd3e9fa903c541183b7e410e559013b0360b97cdc8f54bb25513cf60e13", func := "ratline/ratlinelaw22.PhenomLevels", spec := "phenomLevels", unfollowed := true, recurses := true, loops := true, plainKeys := false, apart := false }
def PhenomLevelsSaid : Prop := phenomLevelsRow.holds Tryz.pinned (OpenSpec.ofChange phenomLevelsSpec)

/-- ITS FALSE NEIGHBOUR: 'it returns false'. Refute it at one input. -/
def phenomLevelsWrong : ChangeSpec := { name := "phenomLevels", fn := fun _ => fun
  | [d1, d2, d3] => { results := [.lit (.bool false)], args := [d1, d2, d3] }
  | _ => none }
def PhenomLevelsWrongFalsely : Prop := phenomLevelsRow.holds Tryz.pinned (OpenSpec.ofChange phenomLevelsWrong)

/-- 'ratlinelaw23.MixingCorrects': WHATEVER THE INPUT: true; the input reads as it did. -/
def mixingCorrectsSpec : ChangeSpec := { name := "mixingCorrects", fn := fun _ => fun
  | [d] => { results := [.lit (.bool true)], args := [d] }
  | _ => none }
def mixingCorrectsRow : OpenClaim := { program := "ythkdpdpgmhmgoaagreat", sum := "bfc70bd3e9fa903c541183b7e410e559013b0360b97cdc8f54bb25513cf60e13", func := "ratline/ratlinelaw23.MixingCorrects", spec := "mixingCorrects", unfollowed := true, recurses := true, loops := true, plainKeys := false, apart := false }
def MixingCorrectsSaid : Prop := mixingCorrectsRow.holds Tryz.pinned (OpenSpec.ofChange mixingCorrectsSpec)

/-- ITS FALSE NEIGHBOUR: 'it returns false'. Refute it at one input. -/
def mixingCorrectsWrong : ChangeSpec := { name := "mixingCorrects", fn := fun _ => fun
  | [d] => { results := [.lit (.bool false)], args := [d] }
  | _ => none }
def MixingCorrectsWrongFalsely : Prop := mixingCorrectsRow.holds Tryz.pinned (OpenSpec.ofChange mixingCorrectsWrong)

/-- 'ratlinelaw23.MixingRows': WHATEVER THE INPUT: true; the input reads as it did. -/
def mixingRowsSpec : ChangeSpec := { name := "mixingRows", fn := fun _ => fun
  | [d] => { results := [.lit (.bool true)], args := [d] }
  | _ => none }
def mixingRowsRow : OpenClaim := { program := "ythkdpdpgmhmgoaagreat", sum := "bfc70bd3e9fa903c541183b7e410e559013b0360b97cdc8f54bb25513cf60e13", func := "ratline/ratlinelaw23.MixingRows", spec := "mixingRows", unfollowed := true, recurses := true, loops := true, plainKeys := false, apart := false }
def MixingRowsSaid : Prop := mixingRowsRow.holds Tryz.pinned (OpenSpec.ofChange mixingRowsSpec)

/-- ITS FALSE NEIGHBOUR: 'it returns false'. Refute it at one input. -/
def mixingRowsWrong : ChangeSpec := { name := "mixingRows", fn := fun _ => fun
  | [d] => { results := [.lit (.bool false)], args := [d] }
  | _ => none }
def MixingRowsWrongFalsely : Prop := mixingRowsRow.holds Tryz.pinned (OpenSpec.ofChange mixingRowsWrong)

/-- 'ratlinelaw23.MixingLowers': WHATEVER THE INPUT: true; the input reads as it did. -/
def mixingLowersSpec : ChangeSpec := { name := "mixingLowers", fn := fun _ => fun
  | [d1, d2, d3] => { results := [.lit (.bool true)], args := [d1, d2, d3] }
  | _ => none }
def mixingLowersRow : OpenClaim := { program := "ythkdpdpgmhmgoaagreat", sum := "bfc70bd3e9fa903c541183b7e410e559013b0360b97cdc8f54bb25513cf60e13", func := "ratline/ratlinelaw23.MixingLowers", spec := "mixingLowers", unfollowed := true, recurses := true, loops := true, plainKeys := false, apart := false }
def MixingLowersSaid : Prop := mixingLowersRow.holds Tryz.pinned (OpenSpec.ofChange mixingLowersSpec)

/-- ITS FALSE NEIGHBOUR: 'it returns false'. Refute it at one input. -/
def mixingLowersWrong : ChangeSpec := { name := "mixingLowers", fn := fun _ => fun
  | [d1, d2, d3] => { results := [.lit (.bool false)], args := [d1, d2, d3] }
  | _ => none }
def MixingLowersWrongFalsely : Prop := mixingLowersRow.holds Tryz.pinned (OpenSpec.ofChange mixingLowersWrong)

/-- 'ratlinelaw23.MixingGraphs': WHATEVER THE INPUT: true; the input reads as it did. -/
def mixingGraphsSpec : ChangeSpec := { name := "mixingGraphs", fn := fun _ => fun
  | [d] => { results := [.lit (.bool true)], args := [d] }
  | _ => none }
def mixingGraphsRow : OpenClaim := { program := "ythkdpdpgmhmgoaagreat", sum := "bfc70bd3e9fa903c541183b7e410e559013b0360b97cdc8f54bb25513cf60e13", func := "ratline/ratlinelaw23.MixingGraphs", spec := "mixingGraphs", unfollowed := true, recurses := true, loops := true, plainKeys := false, apart := false }
def MixingGraphsSaid : Prop := mixingGraphsRow.holds Tryz.pinned (OpenSpec.ofChange mixingGraphsSpec)

/-- ITS FALSE NEIGHBOUR: 'it returns false'. Refute it at one input. -/
def mixingGraphsWrong : ChangeSpec := { name := "mixingGraphs", fn := fun _ => fun
  | [d] => { results := [.lit (.bool false)], args := [d] }
  | _ => none }
def MixingGraphsWrongFalsely : Prop := mixingGraphsRow.holds Tryz.pinned (OpenSpec.ofChange mixingGraphsWrong)

/-- 'ratlinelaw23.MixingLevels': WHATEVER THE INPUT: true; the input reads as it did. -/
def mixingLevelsSpec : ChangeSpec := { name := "mixingLevels", fn := fun _ => fun
  | [d1, d2] => { results := [.lit (.bool true)], args := [d1, d2] }
  | _ => none }
def mixingLevelsRow : OpenClaim := { program := "ythkdpdpgmhmgoaagreat", sum := "bfc70bd3e9fa903c541183b7e410e559013b0360b97cdc8f54bb25513cf60e13", func := "ratline/ratlinelaw23.MixingLevels", spec := "mixingLevels", unfollowed := true, recurses := true, loops := true, plainKeys := false, apart := false }
def MixingLevelsSaid : Prop := mixingLevelsRow.holds Tryz.pinned (OpenSpec.ofChange mixingLevelsSpec)

/-- ITS FALSE NEIGHBOUR: 'it returns false'. Refute it at one input. -/
def mixingLevelsWrong : ChangeSpec := { name := "mixingLevels", fn := fun _ => fun
  | [d1, d2] => { results := [.lit (.bool false)], args := [d1, d2] }
  | _ => none }
def MixingLevelsWrongFalsely : Prop := mixingLevelsRow.holds Tryz.pinned (OpenSpec.ofChange mixingLevelsWrong)

/- THE SECOND FORM. 'bulk': how many values and letters a reading holds, each counted each time it is reached (what is shared counts as often as it is met; a slice's spare places count too). A statement '..UptoSaid' is the law's where the arguments, and the package variables that the reading takes, are together of bulk at most 1048576: NARROWER than '..Said'. Prove '..Said' where nothing that the law and all that it calls make is longer than what came in: it says more and counts as full. Else prove '..UptoSaid'. A law counts once. -/
mutual
def uptoBulk {H : Type} : DataW H → Nat
  | .lit (.string bytes) => bytes.length + 1
  | .lit _ => 1
  | .nil => 1
  | .ptr d => uptoBulk d + 1
  | .slice elems spare => uptoBulkAll elems + uptoBulkAll spare + 1
  | .agg parts => uptoBulkAll parts + 1
  | .iface _ d => uptoBulk d + 1
  | .map entries => uptoBulkEntries entries + 1
  | .held _ => 1
def uptoBulkAll {H : Type} : List (DataW H) → Nat
  | [] => 0
  | d :: r => uptoBulk d + uptoBulkAll r
def uptoBulkEntries {H : Type} : List (Lit × DataW H) → Nat
  | [] => 0
  | x :: r => uptoBulkEntry x + uptoBulkEntries r
def uptoBulkEntry {H : Type} : Lit × DataW H → Nat
  | (.string bytes, d) => bytes.length + uptoBulk d + 1
  | (_, d) => uptoBulk d + 1
 end
def uptoSmall : (H : Type) → List (DataW H) → Bool := fun _ ds => decide (uptoBulkAll ds ≤ 1048576)
def OpenSpec.upto (s : _root_.Go.ChangeSpec) : _root_.Go.OpenSpec := { _root_.Go.OpenSpec.ofChange s with cond := some uptoSmall }

/-- 'ratlinelaw20.DsgEdges', WHERE WHAT IT READS IS OF BULK AT MOST 1048576: true; the input reads as it did. -/
def dsgEdgesUptoRow : OpenClaim := { program := "ythkdpdpgmhmgoaagreat", sum := "bfc70bd3e9fa903c541183b7e410e559013b0360b97cdc8f54bb25513cf60e13", func := "ratline/ratlinelaw20.DsgEdges", spec := "dsgEdges", unfollowed := true, recurses := true, loops := true, plainKeys := false, apart := false, narrowed := true }
def DsgEdgesUptoSaid : Prop := dsgEdgesUptoRow.holds Tryz.pinned (OpenSpec.upto dsgEdgesSpec)

/-- 'ratlinelaw20.DsgChains', WHERE WHAT IT READS IS OF BULK AT MOST 1048576: true; the input reads as it did. -/
def dsgChainsUptoRow : OpenClaim := { program := "ythkdpdpgmhmgoaagreat", sum := "bfc70bd3e9fa903c541183b7e410e559013b0360b97cdc8f54bb25513cf60e13", func := "ratline/ratlinelaw20.DsgChains", spec := "dsgChains", unfollowed := true, recurses := true, loops := true, plainKeys := false, apart := false, narrowed := true }
def DsgChainsUptoSaid : Prop := dsgChainsUptoRow.holds Tryz.pinned (OpenSpec.upto dsgChainsSpec)

/-- 'ratlinelaw20.DsgSerial', WHERE WHAT IT READS IS OF BULK AT MOST 1048576: true; the input reads as it did. -/
def dsgSerialUptoRow : OpenClaim := { program := "ythkdpdpgmhmgoaagreat", sum := "bfc70bd3e9fa903c541183b7e410e559013b0360b97cdc8f54bb25513cf60e13", func := "ratline/ratlinelaw20.DsgSerial", spec := "dsgSerial", unfollowed := true, recurses := true, loops := true, plainKeys := false, apart := false, narrowed := true }
def DsgSerialUptoSaid : Prop := dsgSerialUptoRow.holds Tryz.pinned (OpenSpec.upto dsgSerialSpec)

/-- 'ratlinelaw20.DsgOthers', WHERE WHAT IT READS IS OF BULK AT MOST 1048576: true; the input reads as it did. -/
def dsgOthersUptoRow : OpenClaim := { program := "ythkdpdpgmhmgoaagreat", sum := "bfc70bd3e9fa903c541183b7e410e559013b0360b97cdc8f54bb25513cf60e13", func := "ratline/ratlinelaw20.DsgOthers", spec := "dsgOthers", unfollowed := true, recurses := true, loops := true, plainKeys := false, apart := false, narrowed := true }
def DsgOthersUptoSaid : Prop := dsgOthersUptoRow.holds Tryz.pinned (OpenSpec.upto dsgOthersSpec)

/-- 'ratlinelaw22.PhenomCycles', WHERE WHAT IT READS IS OF BULK AT MOST 1048576: true; the input reads as it did. -/
def phenomCyclesUptoRow : OpenClaim := { program := "ythkdpdpgmhmgoaagreat", sum := "bfc70bd3e9fa903c541183b7e410e559013b0360b97cdc8f54bb25513cf60e13", func := "ratline/ratlinelaw22.PhenomCycles", spec := "phenomCycles", unfollowed := true, recurses := true, loops := true, plainKeys := false, apart := false, narrowed := true }
def PhenomCyclesUptoSaid : Prop := phenomCyclesUptoRow.holds Tryz.pinned (OpenSpec.upto phenomCyclesSpec)

/-- 'ratlinelaw22.PhenomWitness', WHERE WHAT IT READS IS OF BULK AT MOST 1048576: true; the input reads as it did. -/
def phenomWitnessUptoRow : OpenClaim := { program := "ythkdpdpgmhmgoaagreat", sum := "bfc70bd3e9fa903c541183b7e410e559013b0360b97cdc8f54bb25513cf60e13", func := "ratline/ratlinelaw22.PhenomWitness", spec := "phenomWitness", unfollowed := true, recurses := true, loops := true, plainKeys := false, apart := false, narrowed := true }
def PhenomWitnessUptoSaid : Prop := phenomWitnessUptoRow.holds Tryz.pinned (OpenSpec.upto phenomWitnessSpec)

/-- 'ratlinelaw22.PhenomRungs', WHERE WHAT IT READS IS OF BULK AT MOST 1048576: true; the input reads as it did. -/
def phenomRungsUptoRow : OpenClaim := { program := "ythkdpdpgmhmgoaagreat", sum := "bfc70bd3e9fa903c541183b7e410e559013b0360b97cdc8f54bb25513cf60e13", func := "ratline/ratlinelaw22.PhenomRungs", spec := "phenomRungs", unfollowed := true, recurses := true, loops := true, plainKeys := false, apart := false, narrowed := true }
def PhenomRungsUptoSaid : Prop := phenomRungsUptoRow.holds Tryz.pinned (OpenSpec.upto phenomRungsSpec)

/-- 'ratlinelaw22.PhenomAlone', WHERE WHAT IT READS IS OF BULK AT MOST 1048576: true; the input reads as it did. -/
def phenomAloneUptoRow : OpenClaim := { program := "ythkdpdpgmhmgoaagreat", sum := "bfc70bd3e9fa903c541183b7e410e559013b0360b97cdc8f54bb25513cf60e13", func := "ratline/ratlinelaw22.PhenomAlone", spec := "phenomAlone", unfollowed := true, recurses := true, loops := true, plainKeys := false, apart := false, narrowed := true }
def PhenomAloneUptoSaid : Prop := phenomAloneUptoRow.holds Tryz.pinned (OpenSpec.upto phenomAloneSpec)

/-- 'ratlinelaw22.PhenomReads', WHERE WHAT IT READS IS OF BULK AT MOST 1048576: true; the input reads as it did. -/
def phenomReadsUptoRow : OpenClaim := { program := "ythkdpdpgmhmgoaagreat", sum := "bfc70bd3e9fa903c541183b7e410e559013b0360b97cdc8f54bb25513cf60e13", func := "ratline/ratlinelaw22.PhenomReads", spec := "phenomReads", unfollowed := true, recurses := true, loops := true, plainKeys := false, apart := false, narrowed := true }
def PhenomReadsUptoSaid : Prop := phenomReadsUptoRow.holds Tryz.pinned (OpenSpec.upto phenomReadsSpec)

/-- 'ratlinelaw22.PhenomLevels', WHERE WHAT IT READS IS OF BULK AT MOST 1048576: true; the input reads as it did. -/
def phenomLevelsUptoRow : OpenClaim := { program := "ythkdpdpgmhmgoaagreat", sum := "bfc70bd3e9fa903c541183b7e410e559013b0360b97cdc8f54bb25513cf60e13", func := "ratline/ratlinelaw22.PhenomLevels", spec := "phenomLevels", unfollowed := true, recurses := true, loops := true, plainKeys := false, apart := false, narrowed := true }
def PhenomLevelsUptoSaid : Prop := phenomLevelsUptoRow.holds Tryz.pinned (OpenSpec.upto phenomLevelsSpec)

/-- 'ratlinelaw23.MixingCorrects', WHERE WHAT IT READS IS OF BULK AT MOST 1048576: true; the input reads as it did. -/
def mixingCorrectsUptoRow : OpenClaim := { program := "ythkdpdpgmhmgoaagreat", sum := "bfc70bd3e9fa903c541183b7e410e559013b0360b97cdc8f54bb25513cf60e13", func := "ratline/ratlinelaw23.MixingCorrects", spec := "mixingCorrects", unfollowed := true, recurses := true, loops := true, plainKeys := false, apart := false, narrowed := true }
def MixingCorrectsUptoSaid : Prop := mixingCorrectsUptoRow.holds Tryz.pinned (OpenSpec.upto mixingCorrectsSpec)

/-- 'ratlinelaw23.MixingRows', WHERE WHAT IT READS IS OF BULK AT MOST 1048576: true; the input reads as it did. -/
def mixingRowsUptoRow : OpenClaim := { program := "ythkdpdpgmhmgoaagreat", sum := "bfc70bd3e9fa903c541183b7e410e559013b0360b97cdc8f54bb25513cf60e13", func := "ratline/ratlinelaw23.MixingRows", spec := "mixingRows", unfollowed := true, recurses := true, loops := true, plainKeys := false, apart := false, narrowed := true }
def MixingRowsUptoSaid : Prop := mixingRowsUptoRow.holds Tryz.pinned (OpenSpec.upto mixingRowsSpec)

/-- 'ratlinelaw23.MixingLowers', WHERE WHAT IT READS IS OF BULK AT MOST 1048576: true; the input reads as it did. -/
def mixingLowersUptoRow : OpenClaim := { program := "ythkdpdpgmhmgoaagreat", sum := "bfc70bd3e9fa903c541183b7e410e559013b0360b97cdc8f54bb25513cf60e13", func := "ratline/ratlinelaw23.MixingLowers", spec := "mixingLowers", unfollowed := true, recurses := true, loops := true, plainKeys := false, apart := false, narrowed := true }
def MixingLowersUptoSaid : Prop := mixingLowersUptoRow.holds Tryz.pinned (OpenSpec.upto mixingLowersSpec)

/-- 'ratlinelaw23.MixingGraphs', WHERE WHAT IT READS IS OF BULK AT MOST 1048576: true; the input reads as it did. -/
def mixingGraphsUptoRow : OpenClaim := { program := "ythkdpdpgmhmgoaagreat", sum := "bfc70bd3e9fa903c541183b7e410e559013b0360b97cdc8f54bb25513cf60e13", func := "ratline/ratlinelaw23.MixingGraphs", spec := "mixingGraphs", unfollowed := true, recurses := true, loops := true, plainKeys := false, apart := false, narrowed := true }
def MixingGraphsUptoSaid : Prop := mixingGraphsUptoRow.holds Tryz.pinned (OpenSpec.upto mixingGraphsSpec)

/-- 'ratlinelaw23.MixingLevels', WHERE WHAT IT READS IS OF BULK AT MOST 1048576: true; the input reads as it did. -/
def mixingLevelsUptoRow : OpenClaim := { program := "ythkdpdpgmhmgoaagreat", sum := "bfc70bd3e9fa903c541183b7e410e559013b0360b97cdc8f54bb25513cf60e13", func := "ratline/ratlinelaw23.MixingLevels", spec := "mixingLevels", unfollowed := true, recurses := true, loops := true, plainKeys := false, apart := false, narrowed := true }
def MixingLevelsUptoSaid : Prop := mixingLevelsUptoRow.holds Tryz.pinned (OpenSpec.upto mixingLevelsSpec)

end Rows
end Go.Proofs.YthkdpdpgmhmgoaaGreat
