/-
  No cell of these rows narrows 'for every input' (looked for: loops, veiled, ifaces, maps, wideKeys, modest, calm, conditions, laid).
  DERIVED. THE GIVEN ROWS OF THIS SEAT. 12 by the template 'for every input the law returns true; each argument reads behind the call as it read before'; 0 by the template 'total and deterministic' (their statements: YtilnffidckdadaaTotals.lean).
  GIVEN WITH THE SEED: the statements are not yours to turn. If you find one false, say at which input.
  Laid BY PROGRAM, IN A SANDBOX (cutbox-rows.mjs): the forced cells as the released guide's own fill.sh prints them over the translation 867f5faeac3642ab… (all of the seat's roots in one cut). By AI agents, Wed Nov 11 2026. No macro, syntax, notation, axiom, sorry.
-/
import Derived.Test.YtilnffidckdadaaChecked
import GoSem.Claim
import GoSem.ClaimJoined
import GoSem.ClaimMapViews
import Derived.JoinedTies
import Derived.KernelRfl
namespace Go.Proofs.Ytilnffidckdadaa
/- THE CELL 'sum', in the pinned program and in every row, IS THE sha256 OF THE DUMP (.gsa) THAT YtilnffidckdadaaProg.lean LOADS. Nothing in Lean hashes anything: it is a label: what it is worth is what the hold of that sum in a sandbox is worth. -/
noncomputable def Try.pinned : Pinned := { name := "ytilnffidckdadaa", sum := "867f5faeac3642abe0b72974b3d97369eb4cd4dcf4f218c6228933d4ecadee4f", checked := Try.checked }
namespace Rows
def none {H : Type} : Left H := { results := [], args := [] }

/-- 'laws.FnExactPartialValid': WHATEVER THE INPUT: true; the input reads as it did. -/
def fnExactPartialValidSpec : ChangeSpec := { name := "fnExactPartialValid", fn := fun _ => fun
  | [d] => { results := [.lit (.bool true)], args := [d] }
  | _ => none }
def fnExactPartialValidRow : OpenClaim := { program := "ytilnffidckdadaa", sum := "867f5faeac3642abe0b72974b3d97369eb4cd4dcf4f218c6228933d4ecadee4f", func := "loop.example/rotorciphers/laws.FnExactPartialValid", spec := "fnExactPartialValid", apart := false }
def FnExactPartialValidSaid : Prop := fnExactPartialValidRow.holds Try.pinned (OpenSpec.ofChange fnExactPartialValidSpec)

/-- ITS FALSE NEIGHBOUR: 'it returns false'. Refute it at one input. -/
def fnExactPartialValidWrong : ChangeSpec := { name := "fnExactPartialValid", fn := fun _ => fun
  | [d] => { results := [.lit (.bool false)], args := [d] }
  | _ => none }
def FnExactPartialValidWrongFalsely : Prop := fnExactPartialValidRow.holds Try.pinned (OpenSpec.ofChange fnExactPartialValidWrong)

/-- 'laws.FnExactMergePartials': WHATEVER THE INPUT: true; the input reads as it did. -/
def fnExactMergePartialsSpec : ChangeSpec := { name := "fnExactMergePartials", fn := fun _ => fun
  | [d1, d2] => { results := [.lit (.bool true)], args := [d1, d2] }
  | _ => none }
def fnExactMergePartialsRow : OpenClaim := { program := "ytilnffidckdadaa", sum := "867f5faeac3642abe0b72974b3d97369eb4cd4dcf4f218c6228933d4ecadee4f", func := "loop.example/rotorciphers/laws.FnExactMergePartials", spec := "fnExactMergePartials", apart := false }
def FnExactMergePartialsSaid : Prop := fnExactMergePartialsRow.holds Try.pinned (OpenSpec.ofChange fnExactMergePartialsSpec)

/-- ITS FALSE NEIGHBOUR: 'it returns false'. Refute it at one input. -/
def fnExactMergePartialsWrong : ChangeSpec := { name := "fnExactMergePartials", fn := fun _ => fun
  | [d1, d2] => { results := [.lit (.bool false)], args := [d1, d2] }
  | _ => none }
def FnExactMergePartialsWrongFalsely : Prop := fnExactMergePartialsRow.holds Try.pinned (OpenSpec.ofChange fnExactMergePartialsWrong)

/-- 'laws.FnExactPartialFits': WHATEVER THE INPUT: true; the input reads as it did. -/
def fnExactPartialFitsSpec : ChangeSpec := { name := "fnExactPartialFits", fn := fun _ => fun
  | [d1, d2] => { results := [.lit (.bool true)], args := [d1, d2] }
  | _ => none }
def fnExactPartialFitsRow : OpenClaim := { program := "ytilnffidckdadaa", sum := "867f5faeac3642abe0b72974b3d97369eb4cd4dcf4f218c6228933d4ecadee4f", func := "loop.example/rotorciphers/laws.FnExactPartialFits", spec := "fnExactPartialFits", apart := false }
def FnExactPartialFitsSaid : Prop := fnExactPartialFitsRow.holds Try.pinned (OpenSpec.ofChange fnExactPartialFitsSpec)

/-- ITS FALSE NEIGHBOUR: 'it returns false'. Refute it at one input. -/
def fnExactPartialFitsWrong : ChangeSpec := { name := "fnExactPartialFits", fn := fun _ => fun
  | [d1, d2] => { results := [.lit (.bool false)], args := [d1, d2] }
  | _ => none }
def FnExactPartialFitsWrongFalsely : Prop := fnExactPartialFitsRow.holds Try.pinned (OpenSpec.ofChange fnExactPartialFitsWrong)

/-- 'laws.FnExactKeyFrom': WHATEVER THE INPUT: true; the input reads as it did. -/
def fnExactKeyFromSpec : ChangeSpec := { name := "fnExactKeyFrom", fn := fun _ => fun
  | [d1, d2] => { results := [.lit (.bool true)], args := [d1, d2] }
  | _ => none }
def fnExactKeyFromRow : OpenClaim := { program := "ytilnffidckdadaa", sum := "867f5faeac3642abe0b72974b3d97369eb4cd4dcf4f218c6228933d4ecadee4f", func := "loop.example/rotorciphers/laws.FnExactKeyFrom", spec := "fnExactKeyFrom", apart := false }
def FnExactKeyFromSaid : Prop := fnExactKeyFromRow.holds Try.pinned (OpenSpec.ofChange fnExactKeyFromSpec)

/-- ITS FALSE NEIGHBOUR: 'it returns false'. Refute it at one input. -/
def fnExactKeyFromWrong : ChangeSpec := { name := "fnExactKeyFrom", fn := fun _ => fun
  | [d1, d2] => { results := [.lit (.bool false)], args := [d1, d2] }
  | _ => none }
def FnExactKeyFromWrongFalsely : Prop := fnExactKeyFromRow.holds Try.pinned (OpenSpec.ofChange fnExactKeyFromWrong)

/-- 'laws.FnExactReadWith': WHATEVER THE INPUT: true; the input reads as it did. -/
def fnExactReadWithSpec : ChangeSpec := { name := "fnExactReadWith", fn := fun _ => fun
  | [d1, d2] => { results := [.lit (.bool true)], args := [d1, d2] }
  | _ => none }
def fnExactReadWithRow : OpenClaim := { program := "ytilnffidckdadaa", sum := "867f5faeac3642abe0b72974b3d97369eb4cd4dcf4f218c6228933d4ecadee4f", func := "loop.example/rotorciphers/laws.FnExactReadWith", spec := "fnExactReadWith", apart := false }
def FnExactReadWithSaid : Prop := fnExactReadWithRow.holds Try.pinned (OpenSpec.ofChange fnExactReadWithSpec)

/-- ITS FALSE NEIGHBOUR: 'it returns false'. Refute it at one input. -/
def fnExactReadWithWrong : ChangeSpec := { name := "fnExactReadWith", fn := fun _ => fun
  | [d1, d2] => { results := [.lit (.bool false)], args := [d1, d2] }
  | _ => none }
def FnExactReadWithWrongFalsely : Prop := fnExactReadWithRow.holds Try.pinned (OpenSpec.ofChange fnExactReadWithWrong)

/-- 'laws.FnExactReadDepth': WHATEVER THE INPUT: true; the input reads as it did. -/
def fnExactReadDepthSpec : ChangeSpec := { name := "fnExactReadDepth", fn := fun _ => fun
  | [d1, d2, d3] => { results := [.lit (.bool true)], args := [d1, d2, d3] }
  | _ => none }
def fnExactReadDepthRow : OpenClaim := { program := "ytilnffidckdadaa", sum := "867f5faeac3642abe0b72974b3d97369eb4cd4dcf4f218c6228933d4ecadee4f", func := "loop.example/rotorciphers/laws.FnExactReadDepth", spec := "fnExactReadDepth", apart := false }
def FnExactReadDepthSaid : Prop := fnExactReadDepthRow.holds Try.pinned (OpenSpec.ofChange fnExactReadDepthSpec)

/-- ITS FALSE NEIGHBOUR: 'it returns false'. Refute it at one input. -/
def fnExactReadDepthWrong : ChangeSpec := { name := "fnExactReadDepth", fn := fun _ => fun
  | [d1, d2, d3] => { results := [.lit (.bool false)], args := [d1, d2, d3] }
  | _ => none }
def FnExactReadDepthWrongFalsely : Prop := fnExactReadDepthRow.holds Try.pinned (OpenSpec.ofChange fnExactReadDepthWrong)

/-- 'laws.FnPartialValid': WHATEVER THE INPUT: true; the input reads as it did. -/
def fnPartialValidSpec : ChangeSpec := { name := "fnPartialValid", fn := fun _ => fun
  | [d] => { results := [.lit (.bool true)], args := [d] }
  | _ => none }
def fnPartialValidRow : OpenClaim := { program := "ytilnffidckdadaa", sum := "867f5faeac3642abe0b72974b3d97369eb4cd4dcf4f218c6228933d4ecadee4f", func := "loop.example/rotorciphers/laws.FnPartialValid", spec := "fnPartialValid", apart := false }
def FnPartialValidSaid : Prop := fnPartialValidRow.holds Try.pinned (OpenSpec.ofChange fnPartialValidSpec)

/-- ITS FALSE NEIGHBOUR: 'it returns false'. Refute it at one input. -/
def fnPartialValidWrong : ChangeSpec := { name := "fnPartialValid", fn := fun _ => fun
  | [d] => { results := [.lit (.bool false)], args := [d] }
  | _ => none }
def FnPartialValidWrongFalsely : Prop := fnPartialValidRow.holds Try.pinned (OpenSpec.ofChange fnPartialValidWrong)

/-- 'laws.FnExactDragCrib': WHATEVER THE INPUT: true; the input reads as it did. -/
def fnExactDragCribSpec : ChangeSpec := { name := "fnExactDragCrib", fn := fun _ => fun
  | [d1, d2, d3] => { results := [.lit (.bool true)], args := [d1, d2, d3] }
  | _ => none }
def fnExactDragCribRow : OpenClaim := { program := "ytilnffidckdadaa", sum := "867f5faeac3642abe0b72974b3d97369eb4cd4dcf4f218c6228933d4ecadee4f", func := "loop.example/rotorciphers/laws.FnExactDragCrib", spec := "fnExactDragCrib", apart := false }
def FnExactDragCribSaid : Prop := fnExactDragCribRow.holds Try.pinned (OpenSpec.ofChange fnExactDragCribSpec)

/-- ITS FALSE NEIGHBOUR: 'it returns false'. Refute it at one input. -/
def fnExactDragCribWrong : ChangeSpec := { name := "fnExactDragCrib", fn := fun _ => fun
  | [d1, d2, d3] => { results := [.lit (.bool false)], args := [d1, d2, d3] }
  | _ => none }
def FnExactDragCribWrongFalsely : Prop := fnExactDragCribRow.holds Try.pinned (OpenSpec.ofChange fnExactDragCribWrong)

/-- 'laws.FnMergeTurned': WHATEVER THE INPUT: true; the input reads as it did. -/
def fnMergeTurnedSpec : ChangeSpec := { name := "fnMergeTurned", fn := fun _ => fun
  | [d] => { results := [.lit (.bool true)], args := [d] }
  | _ => none }
def fnMergeTurnedRow : OpenClaim := { program := "ytilnffidckdadaa", sum := "867f5faeac3642abe0b72974b3d97369eb4cd4dcf4f218c6228933d4ecadee4f", func := "loop.example/rotorciphers/laws.FnMergeTurned", spec := "fnMergeTurned", apart := false }
def FnMergeTurnedSaid : Prop := fnMergeTurnedRow.holds Try.pinned (OpenSpec.ofChange fnMergeTurnedSpec)

/-- ITS FALSE NEIGHBOUR: 'it returns false'. Refute it at one input. -/
def fnMergeTurnedWrong : ChangeSpec := { name := "fnMergeTurned", fn := fun _ => fun
  | [d] => { results := [.lit (.bool false)], args := [d] }
  | _ => none }
def FnMergeTurnedWrongFalsely : Prop := fnMergeTurnedRow.holds Try.pinned (OpenSpec.ofChange fnMergeTurnedWrong)

/-- 'laws.FnMergeThree': WHATEVER THE INPUT: true; the input reads as it did. -/
def fnMergeThreeSpec : ChangeSpec := { name := "fnMergeThree", fn := fun _ => fun
  | [d1, d2] => { results := [.lit (.bool true)], args := [d1, d2] }
  | _ => none }
def fnMergeThreeRow : OpenClaim := { program := "ytilnffidckdadaa", sum := "867f5faeac3642abe0b72974b3d97369eb4cd4dcf4f218c6228933d4ecadee4f", func := "loop.example/rotorciphers/laws.FnMergeThree", spec := "fnMergeThree", apart := false }
def FnMergeThreeSaid : Prop := fnMergeThreeRow.holds Try.pinned (OpenSpec.ofChange fnMergeThreeSpec)

/-- ITS FALSE NEIGHBOUR: 'it returns false'. Refute it at one input. -/
def fnMergeThreeWrong : ChangeSpec := { name := "fnMergeThree", fn := fun _ => fun
  | [d1, d2] => { results := [.lit (.bool false)], args := [d1, d2] }
  | _ => none }
def FnMergeThreeWrongFalsely : Prop := fnMergeThreeRow.holds Try.pinned (OpenSpec.ofChange fnMergeThreeWrong)

/-- 'laws.FnMergeFits': WHATEVER THE INPUT: true; the input reads as it did. -/
def fnMergeFitsSpec : ChangeSpec := { name := "fnMergeFits", fn := fun _ => fun
  | [d1, d2] => { results := [.lit (.bool true)], args := [d1, d2] }
  | _ => none }
def fnMergeFitsRow : OpenClaim := { program := "ytilnffidckdadaa", sum := "867f5faeac3642abe0b72974b3d97369eb4cd4dcf4f218c6228933d4ecadee4f", func := "loop.example/rotorciphers/laws.FnMergeFits", spec := "fnMergeFits", apart := false }
def FnMergeFitsSaid : Prop := fnMergeFitsRow.holds Try.pinned (OpenSpec.ofChange fnMergeFitsSpec)

/-- ITS FALSE NEIGHBOUR: 'it returns false'. Refute it at one input. -/
def fnMergeFitsWrong : ChangeSpec := { name := "fnMergeFits", fn := fun _ => fun
  | [d1, d2] => { results := [.lit (.bool false)], args := [d1, d2] }
  | _ => none }
def FnMergeFitsWrongFalsely : Prop := fnMergeFitsRow.holds Try.pinned (OpenSpec.ofChange fnMergeFitsWrong)

/-- 'laws.FnDragTrue': WHATEVER THE INPUT: true; the input reads as it did. -/
def fnDragTrueSpec : ChangeSpec := { name := "fnDragTrue", fn := fun _ => fun
  | [d1, d2] => { results := [.lit (.bool true)], args := [d1, d2] }
  | _ => none }
def fnDragTrueRow : OpenClaim := { program := "ytilnffidckdadaa", sum := "867f5faeac3642abe0b72974b3d97369eb4cd4dcf4f218c6228933d4ecadee4f", func := "loop.example/rotorciphers/laws.FnDragTrue", spec := "fnDragTrue", apart := false }
def FnDragTrueSaid : Prop := fnDragTrueRow.holds Try.pinned (OpenSpec.ofChange fnDragTrueSpec)

/-- ITS FALSE NEIGHBOUR: 'it returns false'. Refute it at one input. -/
def fnDragTrueWrong : ChangeSpec := { name := "fnDragTrue", fn := fun _ => fun
  | [d1, d2] => { results := [.lit (.bool false)], args := [d1, d2] }
  | _ => none }
def FnDragTrueWrongFalsely : Prop := fnDragTrueRow.holds Try.pinned (OpenSpec.ofChange fnDragTrueWrong)

/- THE SECOND FORM. 'bulk': how many values and letters a reading holds, each counted each time it is reached (what is shared counts as often as it is met; a slice's spare places count too). A statement '..UptoSaid' is the law's where the arguments, and the package variables that the reading takes, are together of bulk at most 1048576: NARROWER than '..Said'. Prove '..Said' where nothing that the law and all that it calls make is longer than what came in: it says more and counts as full. Else prove '..UptoSaid'. A law counts once. -/
mutual
def uptoBulk {H : Type} : DataW H → Nat
  | .lit (.string bytes) => bytes.length + 1
  | .lit _ => 1
  | .nil => 1
  | .ptr d => uptoBulk d + 1
  | .slice elems spare => uptoBulkAll elems + uptoBulkAll spare + 1
  | .agg parts => uptoBulkAll parts + 1
  | .iface _ d => uptoBulk d + 1
  | .map entries => uptoBulkEntries entries + 1
  | .held _ => 1
def uptoBulkAll {H : Type} : List (DataW H) → Nat
  | [] => 0
  | d :: r => uptoBulk d + uptoBulkAll r
def uptoBulkEntries {H : Type} : List (Lit × DataW H) → Nat
  | [] => 0
  | x :: r => uptoBulkEntry x + uptoBulkEntries r
def uptoBulkEntry {H : Type} : Lit × DataW H → Nat
  | (.string bytes, d) => bytes.length + uptoBulk d + 1
  | (_, d) => uptoBulk d + 1
 end
def uptoSmall : (H : Type) → List (DataW H) → Bool := fun _ ds => decide (uptoBulkAll ds ≤ 1048576)
def OpenSpec.upto (s : _root_.Go.ChangeSpec) : _root_.Go.OpenSpec := { _root_.Go.OpenSpec.ofChange s with cond := some uptoSmall }

/-- 'laws.FnExactPartialValid', WHERE WHAT IT READS IS OF BULK AT MOST 1048576: true; the input reads as it did. -/
def fnExactPartialValidUptoRow : OpenClaim := { program := "ytilnffidckdadaa", sum := "867f5faeac3642abe0b72974b3d97369eb4cd4dcf4f218c6228933d4ecadee4f", func := "loop.example/rotorciphers/laws.FnExactPartialValid", spec := "fnExactPartialValid", apart := false, narrowed := true }
def FnExactPartialValidUptoSaid : Prop := fnExactPartialValidUptoRow.holds Try.pinned (OpenSpec.upto fnExactPartialValidSpec)

/-- 'laws.FnExactMergePartials', WHERE WHAT IT READS IS OF BULK AT MOST 1048576: true; the input reads as it did. -/
def fnExactMergePartialsUptoRow : OpenClaim := { program := "ytilnffidckdadaa", sum := "867f5faeac3642abe0b72974b3d97369eb4cd4dcf4f218c6228933d4ecadee4f", func := "loop.example/rotorciphers/laws.FnExactMergePartials", spec := "fnExactMergePartials", apart := false, narrowed := true }
def FnExactMergePartialsUptoSaid : Prop := fnExactMergePartialsUptoRow.holds Try.pinned (OpenSpec.upto fnExactMergePartialsSpec)

/-- 'laws.FnExactPartialFits', WHERE WHAT IT READS IS OF BULK AT MOST 1048576: true; the input reads as it did. -/
def fnExactPartialFitsUptoRow : OpenClaim := { program := "ytilnffidckdadaa", sum := "867f5faeac3642abe0b72974b3d97369eb4cd4dcf4f218c6228933d4ecadee4f", func := "loop.example/rotorciphers/laws.FnExactPartialFits", spec := "fnExactPartialFits", apart := false, narrowed := true }
def FnExactPartialFitsUptoSaid : Prop := fnExactPartialFitsUptoRow.holds Try.pinned (OpenSpec.upto fnExactPartialFitsSpec)

/-- 'laws.FnExactKeyFrom', WHERE WHAT IT READS IS OF BULK AT MOST 1048576: true; the input reads as it did. -/
def fnExactKeyFromUptoRow : OpenClaim := { program := "ytilnffidckdadaa", sum := "867f5faeac3642abe0b72974b3d97369eb4cd4dcf4f218c6228933d4ecadee4f", func := "loop.example/rotorciphers/laws.FnExactKeyFrom", spec := "fnExactKeyFrom", apart := false, narrowed := true }
def FnExactKeyFromUptoSaid : Prop := fnExactKeyFromUptoRow.holds Try.pinned (OpenSpec.upto fnExactKeyFromSpec)

/-- 'laws.FnExactReadWith', WHERE WHAT IT READS IS OF BULK AT MOST 1048576: true; the input reads as it did. -/
def fnExactReadWithUptoRow : OpenClaim := { program := "ytilnffidckdadaa", sum := "867f5faeac3642abe0b72974b3d97369eb4cd4dcf4f218c6228933d4ecadee4f", func := "loop.example/rotorciphers/laws.FnExactReadWith", spec := "fnExactReadWith", apart := false, narrowed := true }
def FnExactReadWithUptoSaid : Prop := fnExactReadWithUptoRow.holds Try.pinned (OpenSpec.upto fnExactReadWithSpec)

/-- 'laws.FnExactReadDepth', WHERE WHAT IT READS IS OF BULK AT MOST 1048576: true; the input reads as it did. -/
def fnExactReadDepthUptoRow : OpenClaim := { program := "ytilnffidckdadaa", sum := "867f5faeac3642abe0b72974b3d97369eb4cd4dcf4f218c6228933d4ecadee4f", func := "loop.example/rotorciphers/laws.FnExactReadDepth", spec := "fnExactReadDepth", apart := false, narrowed := true }
def FnExactReadDepthUptoSaid : Prop := fnExactReadDepthUptoRow.holds Try.pinned (OpenSpec.upto fnExactReadDepthSpec)

/-- 'laws.FnPartialValid', WHERE WHAT IT READS IS OF BULK AT MOST 1048576: true; the input reads as it did. -/
def fnPartialValidUptoRow : OpenClaim := { program := "ytilnffidckdadaa", sum := "867f5faeac3642abe0b72974b3d97369eb4cd4dcf4f218c6228933d4ecadee4f", func := "loop.example/rotorciphers/laws.FnPartialValid", spec := "fnPartialValid", apart := false, narrowed := true }
def FnPartialValidUptoSaid : Prop := fnPartialValidUptoRow.holds Try.pinned (OpenSpec.upto fnPartialValidSpec)

/-- 'laws.FnExactDragCrib', WHERE WHAT IT READS IS OF BULK AT MOST 1048576: true; the input reads as it did. -/
def fnExactDragCribUptoRow : OpenClaim := { program := "ytilnffidckdadaa", sum := "867f5faeac3642abe0b72974b3d97369eb4cd4dcf4f218c6228933d4ecadee4f", func := "loop.example/rotorciphers/laws.FnExactDragCrib", spec := "fnExactDragCrib", apart := false, narrowed := true }
def FnExactDragCribUptoSaid : Prop := fnExactDragCribUptoRow.holds Try.pinned (OpenSpec.upto fnExactDragCribSpec)

/-- 'laws.FnMergeTurned', WHERE WHAT IT READS IS OF BULK AT MOST 1048576: true; the input reads as it did. -/
def fnMergeTurnedUptoRow : OpenClaim := { program := "ytilnffidckdadaa", sum := "867f5faeac3642abe0b72974b3d97369eb4cd4dcf4f218c6228933d4ecadee4f", func := "loop.example/rotorciphers/laws.FnMergeTurned", spec := "fnMergeTurned", apart := false, narrowed := true }
def FnMergeTurnedUptoSaid : Prop := fnMergeTurnedUptoRow.holds Try.pinned (OpenSpec.upto fnMergeTurnedSpec)

/-- 'laws.FnMergeThree', WHERE WHAT IT READS IS OF BULK AT MOST 1048576: true; the input reads as it did. -/
def fnMergeThreeUptoRow : OpenClaim := { program := "ytilnffidckdadaa", sum := "867f5faeac3642abe0b72974b3d97369eb4cd4dcf4f218c6228933d4ecadee4f", func := "loop.example/rotorciphers/laws.FnMergeThree", spec := "fnMergeThree", apart := false, narrowed := true }
def FnMergeThreeUptoSaid : Prop := fnMergeThreeUptoRow.holds Try.pinned (OpenSpec.upto fnMergeThreeSpec)

/-- 'laws.FnMergeFits', WHERE WHAT IT READS IS OF BULK AT MOST 1048576: true; the input reads as it did. -/
def fnMergeFitsUptoRow : OpenClaim := { program := "ytilnffidckdadaa", sum := "867f5faeac3642abe0b72974b3d97369eb4cd4dcf4f218c6228933d4ecadee4f", func := "loop.example/rotorciphers/laws.FnMergeFits", spec := "fnMergeFits", apart := false, narrowed := true }
def FnMergeFitsUptoSaid : Prop := fnMergeFitsUptoRow.holds Try.pinned (OpenSpec.upto fnMergeFitsSpec)

/-- 'laws.FnDragTrue', WHERE WHAT IT READS IS OF BULK AT MOST 1048576: true; the input reads as it did. -/
def fnDragTrueUptoRow : OpenClaim := { program := "ytilnffidckdadaa", sum := "867f5faeac3642abe0b72974b3d97369eb4cd4dcf4f218c6228933d4ecadee4f", func := "loop.example/rotorciphers/laws.FnDragTrue", spec := "fnDragTrue", apart := false, narrowed := true }
def FnDragTrueUptoSaid : Prop := fnDragTrueUptoRow.holds Try.pinned (OpenSpec.upto fnDragTrueSpec)

end Rows
end Go.Proofs.Ytilnffidckdadaa
