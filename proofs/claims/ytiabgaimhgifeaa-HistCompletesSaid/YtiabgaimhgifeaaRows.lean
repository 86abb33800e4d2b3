/-
  NARROWER THAN 'FOR EVERY INPUT', by the rows' own cells (each row's printed sentence says how): HistChecks: loops · HistShorter: loops · HistOrders: loops · HistBegins: loops · HistAborts: loops · HistCompletes: loops.
  DERIVED. THE GIVEN ROWS OF THIS SEAT. 6 by the template 'for every input the law returns true; each argument reads behind the call as it read before'; 0 by the template 'total and deterministic' (their statements: YtiabgaimhgifeaaTotals.lean).
  GIVEN WITH THE SEED: the statements are not yours to turn. If you find one false, say at which input.
  Laid BY PROGRAM, IN A SANDBOX (cutbox-rows.mjs): the forced cells as the released guide's own fill.sh prints them over the translation ee59fa2dde41f408… (all of the seat's roots in one cut). By AI agents, Wed Nov 11 2026. No macro, syntax, notation, axiom, sorry.
-/
import Derived.Test.YtiabgaimhgifeaaChecked
import GoSem.Claim
import GoSem.ClaimJoined
import GoSem.ClaimMapViews
import Derived.JoinedTies
import Derived.KernelRfl
namespace Go.Proofs.Ytiabgaimhgifeaa
/- THE CELL 'sum', in the pinned program and in every row, IS THE sha256 OF THE DUMP (.gsa) THAT YtiabgaimhgifeaaProg.lean LOADS. Nothing in Lean hashes anything: it is a label: what it is worth is what the hold of that sum in a sandbox is worth. -/
noncomputable def Try.pinned : Pinned := { name := "ytiabgaimhgifeaa", sum := "ee59fa2dde41f4085c4d31829c265ccdd71458aff1c76834ed6f238969b1febf", checked := Try.checked }
namespace Rows
def none {H : Type} : Left H := { results := [], args := [] }

/-- 'ratlinelaw18.HistChecks': WHATEVER THE INPUT: true; the input reads as it did. -/
def histChecksSpec : ChangeSpec := { name := "histChecks", fn := fun _ => fun
  | [d] => { results := [.lit (.bool true)], args := [d] }
  | _ => none }
def histChecksRow : OpenClaim := { program := "ytiabgaimhgifeaa", sum := "ee59fa2dde41f4085c4d31829c265ccdd71458aff1c76834ed6f238969b1febf", func := "ratline/ratlinelaw18.HistChecks", spec := "histChecks", unfollowed := true, recurses := true, loops := true, plainKeys := false, apart := false }
def HistChecksSaid : Prop := histChecksRow.holds Try.pinned (OpenSpec.ofChange histChecksSpec)

/-- ITS FALSE NEIGHBOUR: 'it returns false'. Refute it at one input. -/
def histChecksWrong : ChangeSpec := { name := "histChecks", fn := fun _ => fun
  | [d] => { results := [.lit (.bool false)], args := [d] }
  | _ => none }
def HistChecksWrongFalsely : Prop := histChecksRow.holds Try.pinned (OpenSpec.ofChange histChecksWrong)

/-- 'ratlinelaw18.HistShorter': WHATEVER THE INPUT: true; the input reads as it did. -/
def histShorterSpec : ChangeSpec := { name := "histShorter", fn := fun _ => fun
  | [d1, d2] => { results := [.lit (.bool true)], args := [d1, d2] }
  | _ => none }
def histShorterRow : OpenClaim := { program := "ytiabgaimhgifeaa", sum := "ee59fa2dde41f4085c4d31829c265ccdd71458aff1c76834ed6f238969b1febf", func := "ratline/ratlinelaw18.HistShorter", spec := "histShorter", unfollowed := true, recurses := true, loops := true, plainKeys := false, apart := false }
def HistShorterSaid : Prop := histShorterRow.holds Try.pinned (OpenSpec.ofChange histShorterSpec)

/-- ITS FALSE NEIGHBOUR: 'it returns false'. Refute it at one input. -/
def histShorterWrong : ChangeSpec := { name := "histShorter", fn := fun _ => fun
  | [d1, d2] => { results := [.lit (.bool false)], args := [d1, d2] }
  | _ => none }
def HistShorterWrongFalsely : Prop := histShorterRow.holds Try.pinned (OpenSpec.ofChange histShorterWrong)

/-- 'ratlinelaw18.HistOrders': WHATEVER THE INPUT: true; the input reads as it did. -/
def histOrdersSpec : ChangeSpec := { name := "histOrders", fn := fun _ => fun
  | [d1, d2] => { results := [.lit (.bool true)], args := [d1, d2] }
  | _ => none }
def histOrdersRow : OpenClaim := { program := "ytiabgaimhgifeaa", sum := "ee59fa2dde41f4085c4d31829c265ccdd71458aff1c76834ed6f238969b1febf", func := "ratline/ratlinelaw18.HistOrders", spec := "histOrders", unfollowed := true, recurses := true, loops := true, plainKeys := false, apart := false }
def HistOrdersSaid : Prop := histOrdersRow.holds Try.pinned (OpenSpec.ofChange histOrdersSpec)

/-- ITS FALSE NEIGHBOUR: 'it returns false'. Refute it at one input. -/
def histOrdersWrong : ChangeSpec := { name := "histOrders", fn := fun _ => fun
  | [d1, d2] => { results := [.lit (.bool false)], args := [d1, d2] }
  | _ => none }
def HistOrdersWrongFalsely : Prop := histOrdersRow.holds Try.pinned (OpenSpec.ofChange histOrdersWrong)

/-- 'ratlinelaw18.HistBegins': WHATEVER THE INPUT: true; the input reads as it did. -/
def histBeginsSpec : ChangeSpec := { name := "histBegins", fn := fun _ => fun
  | [d1, d2] => { results := [.lit (.bool true)], args := [d1, d2] }
  | _ => none }
def histBeginsRow : OpenClaim := { program := "ytiabgaimhgifeaa", sum := "ee59fa2dde41f4085c4d31829c265ccdd71458aff1c76834ed6f238969b1febf", func := "ratline/ratlinelaw18.HistBegins", spec := "histBegins", unfollowed := true, recurses := true, loops := true, plainKeys := false, apart := false }
def HistBeginsSaid : Prop := histBeginsRow.holds Try.pinned (OpenSpec.ofChange histBeginsSpec)

/-- ITS FALSE NEIGHBOUR: 'it returns false'. Refute it at one input. -/
def histBeginsWrong : ChangeSpec := { name := "histBegins", fn := fun _ => fun
  | [d1, d2] => { results := [.lit (.bool false)], args := [d1, d2] }
  | _ => none }
def HistBeginsWrongFalsely : Prop := histBeginsRow.holds Try.pinned (OpenSpec.ofChange histBeginsWrong)

/-- 'ratlinelaw18.HistAborts': WHATEVER THE INPUT: true; the input reads as it did. -/
def histAbortsSpec : ChangeSpec := { name := "histAborts", fn := fun _ => fun
  | [d1, d2] => { results := [.lit (.bool true)], args := [d1, d2] }
  | _ => none }
def histAbortsRow : OpenClaim := { program := "ytiabgaimhgifeaa", sum := "ee59fa2dde41f4085c4d31829c265ccdd71458aff1c76834ed6f238969b1febf", func := "ratline/ratlinelaw18.HistAborts", spec := "histAborts", unfollowed := true, recurses := true, loops := true, plainKeys := false, apart := false }
def HistAbortsSaid : Prop := histAbortsRow.holds Try.pinned (OpenSpec.ofChange histAbortsSpec)

/-- ITS FALSE NEIGHBOUR: 'it returns false'. Refute it at one input. -/
def histAbortsWrong : ChangeSpec := { name := "histAborts", fn := fun _ => fun
  | [d1, d2] => { results := [.lit (.bool false)], args := [d1, d2] }
  | _ => none }
def HistAbortsWrongFalsely : Prop := histAbortsRow.holds Try.pinned (OpenSpec.ofChange histAbortsWrong)

/-- 'ratlinelaw18.HistCompletes': WHATEVER THE INPUT: true; the input reads as it did. -/
def histCompletesSpec : ChangeSpec := { name := "histCompletes", fn := fun _ => fun
  | [d1, d2] => { results := [.lit (.bool true)], args := [d1, d2] }
  | _ => none }
def histCompletesRow : OpenClaim := { program := "ytiabgaimhgifeaa", sum := "ee59fa2dde41f4085c4d31829c265ccdd71458aff1c76834ed6f238969b1febf", func := "ratline/ratlinelaw18.HistCompletes", spec := "histCompletes", unfollowed := true, recurses := true, loops := true, plainKeys := false, apart := false }
def HistCompletesSaid : Prop := histCompletesRow.holds Try.pinned (OpenSpec.ofChange histCompletesSpec)

/-- ITS FALSE NEIGHBOUR: 'it returns false'. Refute it at one input. -/
def histCompletesWrong : ChangeSpec := { name := "histCompletes", fn := fun _ => fun
  | [d1, d2] => { results := [.lit (.bool false)], args := [d1, d2] }
  | _ => none }
def HistCompletesWrongFalsely : Prop := histCompletesRow.holds Try.pinned (OpenSpec.ofChange histCompletesWrong)

/- THE SECOND FORM. 'bulk': how many values and letters a reading holds, each counted each time it is reached (what is shared counts as often as it is met; a slice's spare places count too). A statement '..UptoSaid' is the law's where the arguments, and the package variables that the reading takes, are together of bulk at most 1048576: NARROWER than '..Said'. Prove '..Said' where nothing that the law and all that it calls make is longer than what came in: it says more and counts as full. Else prove '..UptoSaid'. A law counts once. -/
mutual
def uptoBulk {H : Type} : DataW H → Nat
  | .lit (.string bytes) => bytes.length + 1
  | .lit _ => 1
  | .nil => 1
  | .ptr d => uptoBulk d + 1
  | .slice elems spare => uptoBulkAll elems + uptoBulkAll spare + 1
  | .agg parts => uptoBulkAll parts + 1
  | .iface _ d => uptoBulk d + 1
  | .map entries => uptoBulkEntries entries + 1
  | .held _ => 1
def uptoBulkAll {H : Type} : List (DataW H) → Nat
  | [] => 0
  | d :: r => uptoBulk d + uptoBulkAll r
def uptoBulkEntries {H : Type} : List (Lit × DataW H) → Nat
  | [] => 0
  | x :: r => uptoBulkEntry x + uptoBulkEntries r
def uptoBulkEntry {H : Type} : Lit × DataW H → Nat
  | (.string bytes, d) => bytes.length + uptoBulk d + 1
  | (_, d) => uptoBulk d + 1
 end
def uptoSmall : (H : Type) → List (DataW H) → Bool := fun _ ds => decide (uptoBulkAll ds ≤ 1048576)
def OpenSpec.upto (s : _root_.Go.ChangeSpec) : _root_.Go.OpenSpec := { _root_.Go.OpenSpec.ofChange s with cond := some uptoSmall }

/-- 'ratlinelaw18.HistChecks', WHERE WHAT IT READS IS OF BULK AT MOST 1048576: true; the input reads as it did. -/
def histChecksUptoRow : OpenClaim := { program := "ytiabgaimhgifeaa", sum := "ee59fa2dde41f4085c4d31829c265ccdd71458aff1c76834ed6f238969b1febf", func := "ratline/ratlinelaw18.HistChecks", spec := "histChecks", unfollowed := true, recurses := true, loops := true, plainKeys := false, apart := false, narrowed := true }
def HistChecksUptoSaid : Prop := histChecksUptoRow.holds Try.pinned (OpenSpec.upto histChecksSpec)

/-- 'ratlinelaw18.HistShorter', WHERE WHAT IT READS IS OF BULK AT MOST 1048576: true; the input reads as it did. -/
def histShorterUptoRow : OpenClaim := { program := "ytiabgaimhgifeaa", sum := "ee59fa2dde41f4085c4d31829c265ccdd71458aff1c76834ed6f238969b1febf", func := "ratline/ratlinelaw18.HistShorter", spec := "histShorter", unfollowed := true, recurses := true, loops := true, plainKeys := false, apart := false, narrowed := true }
def HistShorterUptoSaid : Prop := histShorterUptoRow.holds Try.pinned (OpenSpec.upto histShorterSpec)

/-- 'ratlinelaw18.HistOrders', WHERE WHAT IT READS IS OF BULK AT MOST 1048576: true; the input reads as it did. -/
def histOrdersUptoRow : OpenClaim := { program := "ytiabgaimhgifeaa", sum := "ee59fa2dde41f4085c4d31829c265ccdd71458aff1c76834ed6f238969b1febf", func := "ratline/ratlinelaw18.HistOrders", spec := "histOrders", unfollowed := true, recurses := true, loops := true, plainKeys := false, apart := false, narrowed := true }
def HistOrdersUptoSaid : Prop := histOrdersUptoRow.holds Try.pinned (OpenSpec.upto histOrdersSpec)

/-- 'ratlinelaw18.HistBegins', WHERE WHAT IT READS IS OF BULK AT MOST 1048576: true; the input reads as it did. -/
def histBeginsUptoRow : OpenClaim := { program := "ytiabgaimhgifeaa", sum := "ee59fa2dde41f4085c4d31829c265ccdd71458aff1c76834ed6f238969b1febf", func := "ratline/ratlinelaw18.HistBegins", spec := "histBegins", unfollowed := true, recurses := true, loops := true, plainKeys := false, apart := false, narrowed := true }
def HistBeginsUptoSaid : Prop := histBeginsUptoRow.holds Try.pinned (OpenSpec.upto histBeginsSpec)

/-- 'ratlinelaw18.HistAborts', WHERE WHAT IT READS IS OF BULK AT MOST 1048576: true; the input reads as it did. -/
def histAbortsUptoRow : OpenClaim := { program := "ytiabgaimhgifeaa", sum := "ee59fa2dde41f4085c4d31829c265ccdd71458aff1c76834ed6f238969b1febf", func := "ratline/ratlinelaw18.HistAborts", spec := "histAborts", unfollowed := true, recurses := true, loops := true, plainKeys := false, apart := false, narrowed := true }
def HistAbortsUptoSaid : Prop := histAbortsUptoRow.holds Try.pinned (OpenSpec.upto histAbortsSpec)

/-- 'ratlinelaw18.HistCompletes', WHERE WHAT IT READS IS OF BULK AT MOST 1048576: true; the input reads as it did. -/
def histCompletesUptoRow : OpenClaim := { program := "ytiabgaimhgifeaa", sum := "ee59fa2dde41f4085c4d31829c265ccdd71458aff1c76834ed6f238969b1febf", func := "ratline/ratlinelaw18.HistCompletes", spec := "histCompletes", unfollowed := true, recurses := true, loops := true, plainKeys := false, apart := false, narrowed := true }
def HistCompletesUptoSaid : Prop := histCompletesUptoRow.holds Try.pinned (OpenSpec.upto histCompletesSpec)

end Rows
end Go.Proofs.Ytiabgaimhgifeaa
