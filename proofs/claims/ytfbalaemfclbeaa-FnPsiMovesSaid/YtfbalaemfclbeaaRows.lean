/-
  No cell of these rows narrows 'for every input' (looked for: loops, veiled, ifaces, maps, wideKeys, modest, calm, conditions, laid).
  DERIVED. THE GIVEN ROWS OF THIS SEAT. 4 by the template 'for every input the law returns true; each argument reads behind the call as it read before'; 0 by the template 'total and deterministic' (their statements: YtfbalaemfclbeaaTotals.lean).
  GIVEN WITH THE SEED: the statements are not yours to turn. If you find one false, say at which input.
  Laid BY PROGRAM, IN A SANDBOX (cutbox-rows.mjs): the forced cells as the released guide's own fill.sh prints them over the translation 29d7309a1be174a0… (all of the seat's roots in one cut). By AI agents, Wed Nov 11 2026. No macro, syntax, notation, axiom, sorry.
-/
import Derived.Test.YtfbalaemfclbeaaChecked
import GoSem.Claim
import GoSem.ClaimJoined
import GoSem.ClaimMapViews
import Derived.JoinedTies
import Derived.KernelRfl
namespace Go.Proofs.Ytfbalaemfclbeaa
/- THE CELL 'sum', in the pinned program and in every row, IS THE sha256 OF THE DUMP (.gsa) THAT YtfbalaemfclbeaaProg.lean LOADS. Nothing in Lean hashes anything: it is a label: what it is worth is what the hold of that sum in a sandbox is worth. -/
noncomputable def Try.pinned : Pinned := { name := "ytfbalaemfclbeaa", sum := "29d7309a1be174a09c865b178833a9888b103894ed22a1bab444d307adf694a8", checked := Try.checked }
namespace Rows
def none {H : Type} : Left H := { results := [], args := [] }

/-- 'laws.FnPsiMoves': WHATEVER THE INPUT: true; the input reads as it did. -/
def fnPsiMovesSpec : ChangeSpec := { name := "fnPsiMoves", fn := fun _ => fun
  | [d] => { results := [.lit (.bool true)], args := [d] }
  | _ => none }
def fnPsiMovesRow : OpenClaim := { program := "ytfbalaemfclbeaa", sum := "29d7309a1be174a09c865b178833a9888b103894ed22a1bab444d307adf694a8", func := "loop.example/rotorciphers/laws.FnPsiMoves", spec := "fnPsiMoves", apart := false }
def FnPsiMovesSaid : Prop := fnPsiMovesRow.holds Try.pinned (OpenSpec.ofChange fnPsiMovesSpec)

/-- ITS FALSE NEIGHBOUR: 'it returns false'. Refute it at one input. -/
def fnPsiMovesWrong : ChangeSpec := { name := "fnPsiMoves", fn := fun _ => fun
  | [d] => { results := [.lit (.bool false)], args := [d] }
  | _ => none }
def FnPsiMovesWrongFalsely : Prop := fnPsiMovesRow.holds Try.pinned (OpenSpec.ofChange fnPsiMovesWrong)

/-- 'laws.FnPsiStops': WHATEVER THE INPUT: true; the input reads as it did. -/
def fnPsiStopsSpec : ChangeSpec := { name := "fnPsiStops", fn := fun _ => fun
  | [d] => { results := [.lit (.bool true)], args := [d] }
  | _ => none }
def fnPsiStopsRow : OpenClaim := { program := "ytfbalaemfclbeaa", sum := "29d7309a1be174a09c865b178833a9888b103894ed22a1bab444d307adf694a8", func := "loop.example/rotorciphers/laws.FnPsiStops", spec := "fnPsiStops", apart := false }
def FnPsiStopsSaid : Prop := fnPsiStopsRow.holds Try.pinned (OpenSpec.ofChange fnPsiStopsSpec)

/-- ITS FALSE NEIGHBOUR: 'it returns false'. Refute it at one input. -/
def fnPsiStopsWrong : ChangeSpec := { name := "fnPsiStops", fn := fun _ => fun
  | [d] => { results := [.lit (.bool false)], args := [d] }
  | _ => none }
def FnPsiStopsWrongFalsely : Prop := fnPsiStopsRow.holds Try.pinned (OpenSpec.ofChange fnPsiStopsWrong)

/-- 'laws.FnChiPrefix': WHATEVER THE INPUT: true; the input reads as it did. -/
def fnChiPrefixSpec : ChangeSpec := { name := "fnChiPrefix", fn := fun _ => fun
  | [d1, d2] => { results := [.lit (.bool true)], args := [d1, d2] }
  | _ => none }
def fnChiPrefixRow : OpenClaim := { program := "ytfbalaemfclbeaa", sum := "29d7309a1be174a09c865b178833a9888b103894ed22a1bab444d307adf694a8", func := "loop.example/rotorciphers/laws.FnChiPrefix", spec := "fnChiPrefix", apart := false }
def FnChiPrefixSaid : Prop := fnChiPrefixRow.holds Try.pinned (OpenSpec.ofChange fnChiPrefixSpec)

/-- ITS FALSE NEIGHBOUR: 'it returns false'. Refute it at one input. -/
def fnChiPrefixWrong : ChangeSpec := { name := "fnChiPrefix", fn := fun _ => fun
  | [d1, d2] => { results := [.lit (.bool false)], args := [d1, d2] }
  | _ => none }
def FnChiPrefixWrongFalsely : Prop := fnChiPrefixRow.holds Try.pinned (OpenSpec.ofChange fnChiPrefixWrong)

/-- 'laws.FnKeySum': WHATEVER THE INPUT: true; the input reads as it did. -/
def fnKeySumSpec : ChangeSpec := { name := "fnKeySum", fn := fun _ => fun
  | [d] => { results := [.lit (.bool true)], args := [d] }
  | _ => none }
def fnKeySumRow : OpenClaim := { program := "ytfbalaemfclbeaa", sum := "29d7309a1be174a09c865b178833a9888b103894ed22a1bab444d307adf694a8", func := "loop.example/rotorciphers/laws.FnKeySum", spec := "fnKeySum", apart := false }
def FnKeySumSaid : Prop := fnKeySumRow.holds Try.pinned (OpenSpec.ofChange fnKeySumSpec)

/-- ITS FALSE NEIGHBOUR: 'it returns false'. Refute it at one input. -/
def fnKeySumWrong : ChangeSpec := { name := "fnKeySum", fn := fun _ => fun
  | [d] => { results := [.lit (.bool false)], args := [d] }
  | _ => none }
def FnKeySumWrongFalsely : Prop := fnKeySumRow.holds Try.pinned (OpenSpec.ofChange fnKeySumWrong)

/- THE SECOND FORM. 'bulk': how many values and letters a reading holds, each counted each time it is reached (what is shared counts as often as it is met; a slice's spare places count too). A statement '..UptoSaid' is the law's where the arguments, and the package variables that the reading takes, are together of bulk at most 1048576: NARROWER than '..Said'. Prove '..Said' where nothing that the law and all that it calls make is longer than what came in: it says more and counts as full. Else prove '..UptoSaid'. A law counts once. -/
mutual
def uptoBulk {H : Type} : DataW H → Nat
  | .lit (.string bytes) => bytes.length + 1
  | .lit _ => 1
  | .nil => 1
  | .ptr d => uptoBulk d + 1
  | .slice elems spare => uptoBulkAll elems + uptoBulkAll spare + 1
  | .agg parts => uptoBulkAll parts + 1
  | .iface _ d => uptoBulk d + 1
  | .map entries => uptoBulkEntries entries + 1
  | .held _ => 1
def uptoBulkAll {H : Type} : List (DataW H) → Nat
  | [] => 0
  | d :: r => uptoBulk d + uptoBulkAll r
def uptoBulkEntries {H : Type} : List (Lit × DataW H) → Nat
  | [] => 0
  | x :: r => uptoBulkEntry x + uptoBulkEntries r
def uptoBulkEntry {H : Type} : Lit × DataW H → Nat
  | (.string bytes, d) => bytes.length + uptoBulk d + 1
  | (_, d) => uptoBulk d + 1
 end
def uptoSmall : (H : Type) → List (DataW H) → Bool := fun _ ds => decide (uptoBulkAll ds ≤ 1048576)
def OpenSpec.upto (s : _root_.Go.ChangeSpec) : _root_.Go.OpenSpec := { _root_.Go.OpenSpec.ofChange s with cond := some uptoSmall }

/-- 'laws.FnPsiMoves', WHERE WHAT IT READS IS OF BULK AT MOST 1048576: true; the input reads as it did. -/
def fnPsiMovesUptoRow : OpenClaim := { program := "ytfbalaemfclbeaa", sum := "29d7309a1be174a09c865b178833a9888b103894ed22a1bab444d307adf694a8", func := "loop.example/rotorciphers/laws.FnPsiMoves", spec := "fnPsiMoves", apart := false, narrowed := true }
def FnPsiMovesUptoSaid : Prop := fnPsiMovesUptoRow.holds Try.pinned (OpenSpec.upto fnPsiMovesSpec)

/-- 'laws.FnPsiStops', WHERE WHAT IT READS IS OF BULK AT MOST 1048576: true; the input reads as it did. -/
def fnPsiStopsUptoRow : OpenClaim := { program := "ytfbalaemfclbeaa", sum := "29d7309a1be174a09c865b178833a9888b103894ed22a1bab444d307adf694a8", func := "loop.example/rotorciphers/laws.FnPsiStops", spec := "fnPsiStops", apart := false, narrowed := true }
def FnPsiStopsUptoSaid : Prop := fnPsiStopsUptoRow.holds Try.pinned (OpenSpec.upto fnPsiStopsSpec)

/-- 'laws.FnChiPrefix', WHERE WHAT IT READS IS OF BULK AT MOST 1048576: true; the input reads as it did. -/
def fnChiPrefixUptoRow : OpenClaim := { program := "ytfbalaemfclbeaa", sum := "29d7309a1be174a09c865b178833a9888b103894ed22a1bab444d307adf694a8", func := "loop.example/rotorciphers/laws.FnChiPrefix", spec := "fnChiPrefix", apart := false, narrowed := true }
def FnChiPrefixUptoSaid : Prop := fnChiPrefixUptoRow.holds Try.pinned (OpenSpec.upto fnChiPrefixSpec)

/-- 'laws.FnKeySum', WHERE WHAT IT READS IS OF BULK AT MOST 1048576: true; the input reads as it did. -/
def fnKeySumUptoRow : OpenClaim := { program := "ytfbalaemfclbeaa", sum := "29d7309a1be174a09c865b178833a9888b103894ed22a1bab444d307adf694a8", func := "loop.example/rotorciphers/laws.FnKeySum", spec := "fnKeySum", apart := false, narrowed := true }
def FnKeySumUptoSaid : Prop := fnKeySumUptoRow.holds Try.pinned (OpenSpec.upto fnKeySumSpec)

end Rows
end Go.Proofs.Ytfbalaemfclbeaa
