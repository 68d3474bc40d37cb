/-
  No cell of these rows narrows 'for every input' (looked for: loops, veiled, ifaces, maps, wideKeys, modest, calm, conditions, laid).
  DERIVED. THE GIVEN ROWS OF THIS SEAT. 15 by the template 'for every input the law returns true; each argument reads behind the call as it read before'; 0 by the template 'total and deterministic' (their statements: YtmdaepkcemmmnaaTotals.lean).
  GIVEN WITH THE SEED: the statements are not yours to turn. If you find one false, say at which input.
  Laid BY PROGRAM, IN A SANDBOX (cutbox-rows.mjs): the forced cells as the released guide's own fill.sh prints them over the translation 06197ebd1eb0d5c2… (all of the seat's roots in one cut). By AI agents, Wed Nov 11 2026. No macro, syntax, notation, axiom, sorry.
-/
import Derived.Test.YtmdaepkcemmmnaaChecked
import GoSem.Claim
import GoSem.ClaimJoined
import GoSem.ClaimMapViews
import Derived.JoinedTies
import Derived.KernelRfl
namespace Go.Proofs.Ytmdaepkcemmmnaa
/- THE CELL 'sum', in the pinned program and in every row, IS THE sha256 OF THE DUMP (.gsa) THAT YtmdaepkcemmmnaaProg.lean LOADS. Nothing in Lean hashes anything: it is a label: what it is worth is what the hold of that sum in a sandbox is worth. -/
noncomputable def Try.pinned : Pinned := { name := "ytmdaepkcemmmnaa", sum := "06197ebd1eb0d5c238b42fcc0089ffce08c6051a45243a156bf1da237c99c43a", checked := Try.checked }
namespace Rows
def none {H : Type} : Left H := { results := [], args := [] }

/-- 'laws.FnExactPlacesValid': WHATEVER THE INPUT: true; the input reads as it did. -/
def fnExactPlacesValidSpec : ChangeSpec := { name := "fnExactPlacesValid", fn := fun _ => fun
  | [d] => { results := [.lit (.bool true)], args := [d] }
  | _ => none }
def fnExactPlacesValidRow : OpenClaim := { program := "ytmdaepkcemmmnaa", sum := "06197ebd1eb0d5c238b42fcc0089ffce08c6051a45243a156bf1da237c99c43a", func := "loop.example/rotorciphers/laws.FnExactPlacesValid", spec := "fnExactPlacesValid", apart := false }
def FnExactPlacesValidSaid : Prop := fnExactPlacesValidRow.holds Try.pinned (OpenSpec.ofChange fnExactPlacesValidSpec)

/-- ITS FALSE NEIGHBOUR: 'it returns false'. Refute it at one input. -/
def fnExactPlacesValidWrong : ChangeSpec := { name := "fnExactPlacesValid", fn := fun _ => fun
  | [d] => { results := [.lit (.bool false)], args := [d] }
  | _ => none }
def FnExactPlacesValidWrongFalsely : Prop := fnExactPlacesValidRow.holds Try.pinned (OpenSpec.ofChange fnExactPlacesValidWrong)

/-- 'laws.FnPlacesValid': WHATEVER THE INPUT: true; the input reads as it did. -/
def fnPlacesValidSpec : ChangeSpec := { name := "fnPlacesValid", fn := fun _ => fun
  | [d] => { results := [.lit (.bool true)], args := [d] }
  | _ => none }
def fnPlacesValidRow : OpenClaim := { program := "ytmdaepkcemmmnaa", sum := "06197ebd1eb0d5c238b42fcc0089ffce08c6051a45243a156bf1da237c99c43a", func := "loop.example/rotorciphers/laws.FnPlacesValid", spec := "fnPlacesValid", apart := false }
def FnPlacesValidSaid : Prop := fnPlacesValidRow.holds Try.pinned (OpenSpec.ofChange fnPlacesValidSpec)

/-- ITS FALSE NEIGHBOUR: 'it returns false'. Refute it at one input. -/
def fnPlacesValidWrong : ChangeSpec := { name := "fnPlacesValid", fn := fun _ => fun
  | [d] => { results := [.lit (.bool false)], args := [d] }
  | _ => none }
def FnPlacesValidWrongFalsely : Prop := fnPlacesValidRow.holds Try.pinned (OpenSpec.ofChange fnPlacesValidWrong)

/-- 'laws.FnExactJoinPlaces': WHATEVER THE INPUT: true; the input reads as it did. -/
def fnExactJoinPlacesSpec : ChangeSpec := { name := "fnExactJoinPlaces", fn := fun _ => fun
  | [d1, d2] => { results := [.lit (.bool true)], args := [d1, d2] }
  | _ => none }
def fnExactJoinPlacesRow : OpenClaim := { program := "ytmdaepkcemmmnaa", sum := "06197ebd1eb0d5c238b42fcc0089ffce08c6051a45243a156bf1da237c99c43a", func := "loop.example/rotorciphers/laws.FnExactJoinPlaces", spec := "fnExactJoinPlaces", apart := false }
def FnExactJoinPlacesSaid : Prop := fnExactJoinPlacesRow.holds Try.pinned (OpenSpec.ofChange fnExactJoinPlacesSpec)

/-- ITS FALSE NEIGHBOUR: 'it returns false'. Refute it at one input. -/
def fnExactJoinPlacesWrong : ChangeSpec := { name := "fnExactJoinPlaces", fn := fun _ => fun
  | [d1, d2] => { results := [.lit (.bool false)], args := [d1, d2] }
  | _ => none }
def FnExactJoinPlacesWrongFalsely : Prop := fnExactJoinPlacesRow.holds Try.pinned (OpenSpec.ofChange fnExactJoinPlacesWrong)

/-- 'laws.FnExactUndoPlaces': WHATEVER THE INPUT: true; the input reads as it did. -/
def fnExactUndoPlacesSpec : ChangeSpec := { name := "fnExactUndoPlaces", fn := fun _ => fun
  | [d] => { results := [.lit (.bool true)], args := [d] }
  | _ => none }
def fnExactUndoPlacesRow : OpenClaim := { program := "ytmdaepkcemmmnaa", sum := "06197ebd1eb0d5c238b42fcc0089ffce08c6051a45243a156bf1da237c99c43a", func := "loop.example/rotorciphers/laws.FnExactUndoPlaces", spec := "fnExactUndoPlaces", apart := false }
def FnExactUndoPlacesSaid : Prop := fnExactUndoPlacesRow.holds Try.pinned (OpenSpec.ofChange fnExactUndoPlacesSpec)

/-- ITS FALSE NEIGHBOUR: 'it returns false'. Refute it at one input. -/
def fnExactUndoPlacesWrong : ChangeSpec := { name := "fnExactUndoPlaces", fn := fun _ => fun
  | [d] => { results := [.lit (.bool false)], args := [d] }
  | _ => none }
def FnExactUndoPlacesWrongFalsely : Prop := fnExactUndoPlacesRow.holds Try.pinned (OpenSpec.ofChange fnExactUndoPlacesWrong)

/-- 'laws.FnExactPlacesOrder': WHATEVER THE INPUT: true; the input reads as it did. -/
def fnExactPlacesOrderSpec : ChangeSpec := { name := "fnExactPlacesOrder", fn := fun _ => fun
  | [d] => { results := [.lit (.bool true)], args := [d] }
  | _ => none }
def fnExactPlacesOrderRow : OpenClaim := { program := "ytmdaepkcemmmnaa", sum := "06197ebd1eb0d5c238b42fcc0089ffce08c6051a45243a156bf1da237c99c43a", func := "loop.example/rotorciphers/laws.FnExactPlacesOrder", spec := "fnExactPlacesOrder", apart := false }
def FnExactPlacesOrderSaid : Prop := fnExactPlacesOrderRow.holds Try.pinned (OpenSpec.ofChange fnExactPlacesOrderSpec)

/-- ITS FALSE NEIGHBOUR: 'it returns false'. Refute it at one input. -/
def fnExactPlacesOrderWrong : ChangeSpec := { name := "fnExactPlacesOrder", fn := fun _ => fun
  | [d] => { results := [.lit (.bool false)], args := [d] }
  | _ => none }
def FnExactPlacesOrderWrongFalsely : Prop := fnExactPlacesOrderRow.holds Try.pinned (OpenSpec.ofChange fnExactPlacesOrderWrong)

/-- 'laws.FnExactReadPlaces': WHATEVER THE INPUT: true; the input reads as it did. -/
def fnExactReadPlacesSpec : ChangeSpec := { name := "fnExactReadPlaces", fn := fun _ => fun
  | [d1, d2] => { results := [.lit (.bool true)], args := [d1, d2] }
  | _ => none }
def fnExactReadPlacesRow : OpenClaim := { program := "ytmdaepkcemmmnaa", sum := "06197ebd1eb0d5c238b42fcc0089ffce08c6051a45243a156bf1da237c99c43a", func := "loop.example/rotorciphers/laws.FnExactReadPlaces", spec := "fnExactReadPlaces", apart := false }
def FnExactReadPlacesSaid : Prop := fnExactReadPlacesRow.holds Try.pinned (OpenSpec.ofChange fnExactReadPlacesSpec)

/-- ITS FALSE NEIGHBOUR: 'it returns false'. Refute it at one input. -/
def fnExactReadPlacesWrong : ChangeSpec := { name := "fnExactReadPlaces", fn := fun _ => fun
  | [d1, d2] => { results := [.lit (.bool false)], args := [d1, d2] }
  | _ => none }
def FnExactReadPlacesWrongFalsely : Prop := fnExactReadPlacesRow.holds Try.pinned (OpenSpec.ofChange fnExactReadPlacesWrong)

/-- 'laws.FnExactRailPlaces': WHATEVER THE INPUT: true; the input reads as it did. -/
def fnExactRailPlacesSpec : ChangeSpec := { name := "fnExactRailPlaces", fn := fun _ => fun
  | [d1, d2] => { results := [.lit (.bool true)], args := [d1, d2] }
  | _ => none }
def fnExactRailPlacesRow : OpenClaim := { program := "ytmdaepkcemmmnaa", sum := "06197ebd1eb0d5c238b42fcc0089ffce08c6051a45243a156bf1da237c99c43a", func := "loop.example/rotorciphers/laws.FnExactRailPlaces", spec := "fnExactRailPlaces", apart := false }
def FnExactRailPlacesSaid : Prop := fnExactRailPlacesRow.holds Try.pinned (OpenSpec.ofChange fnExactRailPlacesSpec)

/-- ITS FALSE NEIGHBOUR: 'it returns false'. Refute it at one input. -/
def fnExactRailPlacesWrong : ChangeSpec := { name := "fnExactRailPlaces", fn := fun _ => fun
  | [d1, d2] => { results := [.lit (.bool false)], args := [d1, d2] }
  | _ => none }
def FnExactRailPlacesWrongFalsely : Prop := fnExactRailPlacesRow.holds Try.pinned (OpenSpec.ofChange fnExactRailPlacesWrong)

/-- 'laws.FnUndoTwice': WHATEVER THE INPUT: true; the input reads as it did. -/
def fnUndoTwiceSpec : ChangeSpec := { name := "fnUndoTwice", fn := fun _ => fun
  | [d] => { results := [.lit (.bool true)], args := [d] }
  | _ => none }
def fnUndoTwiceRow : OpenClaim := { program := "ytmdaepkcemmmnaa", sum := "06197ebd1eb0d5c238b42fcc0089ffce08c6051a45243a156bf1da237c99c43a", func := "loop.example/rotorciphers/laws.FnUndoTwice", spec := "fnUndoTwice", apart := false }
def FnUndoTwiceSaid : Prop := fnUndoTwiceRow.holds Try.pinned (OpenSpec.ofChange fnUndoTwiceSpec)

/-- ITS FALSE NEIGHBOUR: 'it returns false'. Refute it at one input. -/
def fnUndoTwiceWrong : ChangeSpec := { name := "fnUndoTwice", fn := fun _ => fun
  | [d] => { results := [.lit (.bool false)], args := [d] }
  | _ => none }
def FnUndoTwiceWrongFalsely : Prop := fnUndoTwiceRow.holds Try.pinned (OpenSpec.ofChange fnUndoTwiceWrong)

/-- 'laws.FnRailSimple': WHATEVER THE INPUT: true; the input reads as it did. -/
def fnRailSimpleSpec : ChangeSpec := { name := "fnRailSimple", fn := fun _ => fun
  | [d] => { results := [.lit (.bool true)], args := [d] }
  | _ => none }
def fnRailSimpleRow : OpenClaim := { program := "ytmdaepkcemmmnaa", sum := "06197ebd1eb0d5c238b42fcc0089ffce08c6051a45243a156bf1da237c99c43a", func := "loop.example/rotorciphers/laws.FnRailSimple", spec := "fnRailSimple", apart := false }
def FnRailSimpleSaid : Prop := fnRailSimpleRow.holds Try.pinned (OpenSpec.ofChange fnRailSimpleSpec)

/-- ITS FALSE NEIGHBOUR: 'it returns false'. Refute it at one input. -/
def fnRailSimpleWrong : ChangeSpec := { name := "fnRailSimple", fn := fun _ => fun
  | [d] => { results := [.lit (.bool false)], args := [d] }
  | _ => none }
def FnRailSimpleWrongFalsely : Prop := fnRailSimpleRow.holds Try.pinned (OpenSpec.ofChange fnRailSimpleWrong)

/-- 'laws.FnJoinReads': WHATEVER THE INPUT: true; the input reads as it did. -/
def fnJoinReadsSpec : ChangeSpec := { name := "fnJoinReads", fn := fun _ => fun
  | [d1, d2] => { results := [.lit (.bool true)], args := [d1, d2] }
  | _ => none }
def fnJoinReadsRow : OpenClaim := { program := "ytmdaepkcemmmnaa", sum := "06197ebd1eb0d5c238b42fcc0089ffce08c6051a45243a156bf1da237c99c43a", func := "loop.example/rotorciphers/laws.FnJoinReads", spec := "fnJoinReads", apart := false }
def FnJoinReadsSaid : Prop := fnJoinReadsRow.holds Try.pinned (OpenSpec.ofChange fnJoinReadsSpec)

/-- ITS FALSE NEIGHBOUR: 'it returns false'. Refute it at one input. -/
def fnJoinReadsWrong : ChangeSpec := { name := "fnJoinReads", fn := fun _ => fun
  | [d1, d2] => { results := [.lit (.bool false)], args := [d1, d2] }
  | _ => none }
def FnJoinReadsWrongFalsely : Prop := fnJoinReadsRow.holds Try.pinned (OpenSpec.ofChange fnJoinReadsWrong)

/-- 'laws.FnRailPlaces': WHATEVER THE INPUT: true; the input reads as it did. -/
def fnRailPlacesSpec : ChangeSpec := { name := "fnRailPlaces", fn := fun _ => fun
  | [d] => { results := [.lit (.bool true)], args := [d] }
  | _ => none }
def fnRailPlacesRow : OpenClaim := { program := "ytmdaepkcemmmnaa", sum := "06197ebd1eb0d5c238b42fcc0089ffce08c6051a45243a156bf1da237c99c43a", func := "loop.example/rotorciphers/laws.FnRailPlaces", spec := "fnRailPlaces", apart := false }
def FnRailPlacesSaid : Prop := fnRailPlacesRow.holds Try.pinned (OpenSpec.ofChange fnRailPlacesSpec)

/-- ITS FALSE NEIGHBOUR: 'it returns false'. Refute it at one input. -/
def fnRailPlacesWrong : ChangeSpec := { name := "fnRailPlaces", fn := fun _ => fun
  | [d] => { results := [.lit (.bool false)], args := [d] }
  | _ => none }
def FnRailPlacesWrongFalsely : Prop := fnRailPlacesRow.holds Try.pinned (OpenSpec.ofChange fnRailPlacesWrong)

/-- 'laws.FnJoinThree': WHATEVER THE INPUT: true; the input reads as it did. -/
def fnJoinThreeSpec : ChangeSpec := { name := "fnJoinThree", fn := fun _ => fun
  | [d1, d2] => { results := [.lit (.bool true)], args := [d1, d2] }
  | _ => none }
def fnJoinThreeRow : OpenClaim := { program := "ytmdaepkcemmmnaa", sum := "06197ebd1eb0d5c238b42fcc0089ffce08c6051a45243a156bf1da237c99c43a", func := "loop.example/rotorciphers/laws.FnJoinThree", spec := "fnJoinThree", apart := false }
def FnJoinThreeSaid : Prop := fnJoinThreeRow.holds Try.pinned (OpenSpec.ofChange fnJoinThreeSpec)

/-- ITS FALSE NEIGHBOUR: 'it returns false'. Refute it at one input. -/
def fnJoinThreeWrong : ChangeSpec := { name := "fnJoinThree", fn := fun _ => fun
  | [d1, d2] => { results := [.lit (.bool false)], args := [d1, d2] }
  | _ => none }
def FnJoinThreeWrongFalsely : Prop := fnJoinThreeRow.holds Try.pinned (OpenSpec.ofChange fnJoinThreeWrong)

/-- 'laws.FnPlacesOrderCycles': WHATEVER THE INPUT: true; the input reads as it did. -/
def fnPlacesOrderCyclesSpec : ChangeSpec := { name := "fnPlacesOrderCycles", fn := fun _ => fun
  | [d] => { results := [.lit (.bool true)], args := [d] }
  | _ => none }
def fnPlacesOrderCyclesRow : OpenClaim := { program := "ytmdaepkcemmmnaa", sum := "06197ebd1eb0d5c238b42fcc0089ffce08c6051a45243a156bf1da237c99c43a", func := "loop.example/rotorciphers/laws.FnPlacesOrderCycles", spec := "fnPlacesOrderCycles", apart := false }
def FnPlacesOrderCyclesSaid : Prop := fnPlacesOrderCyclesRow.holds Try.pinned (OpenSpec.ofChange fnPlacesOrderCyclesSpec)

/-- ITS FALSE NEIGHBOUR: 'it returns false'. Refute it at one input. -/
def fnPlacesOrderCyclesWrong : ChangeSpec := { name := "fnPlacesOrderCycles", fn := fun _ => fun
  | [d] => { results := [.lit (.bool false)], args := [d] }
  | _ => none }
def FnPlacesOrderCyclesWrongFalsely : Prop := fnPlacesOrderCyclesRow.holds Try.pinned (OpenSpec.ofChange fnPlacesOrderCyclesWrong)

/-- 'laws.FnReadUndo': WHATEVER THE INPUT: true; the input reads as it did. -/
def fnReadUndoSpec : ChangeSpec := { name := "fnReadUndo", fn := fun _ => fun
  | [d] => { results := [.lit (.bool true)], args := [d] }
  | _ => none }
def fnReadUndoRow : OpenClaim := { program := "ytmdaepkcemmmnaa", sum := "06197ebd1eb0d5c238b42fcc0089ffce08c6051a45243a156bf1da237c99c43a", func := "loop.example/rotorciphers/laws.FnReadUndo", spec := "fnReadUndo", apart := false }
def FnReadUndoSaid : Prop := fnReadUndoRow.holds Try.pinned (OpenSpec.ofChange fnReadUndoSpec)

/-- ITS FALSE NEIGHBOUR: 'it returns false'. Refute it at one input. -/
def fnReadUndoWrong : ChangeSpec := { name := "fnReadUndo", fn := fun _ => fun
  | [d] => { results := [.lit (.bool false)], args := [d] }
  | _ => none }
def FnReadUndoWrongFalsely : Prop := fnReadUndoRow.holds Try.pinned (OpenSpec.ofChange fnReadUndoWrong)

/-- 'laws.FnPlacesOrder': WHATEVER THE INPUT: true; the input reads as it did. -/
def fnPlacesOrderSpec : ChangeSpec := { name := "fnPlacesOrder", fn := fun _ => fun
  | [d] => { results := [.lit (.bool true)], args := [d] }
  | _ => none }
def fnPlacesOrderRow : OpenClaim := { program := "ytmdaepkcemmmnaa", sum := "06197ebd1eb0d5c238b42fcc0089ffce08c6051a45243a156bf1da237c99c43a", func := "loop.example/rotorciphers/laws.FnPlacesOrder", spec := "fnPlacesOrder", apart := false }
def FnPlacesOrderSaid : Prop := fnPlacesOrderRow.holds Try.pinned (OpenSpec.ofChange fnPlacesOrderSpec)

/-- ITS FALSE NEIGHBOUR: 'it returns false'. Refute it at one input. -/
def fnPlacesOrderWrong : ChangeSpec := { name := "fnPlacesOrder", fn := fun _ => fun
  | [d] => { results := [.lit (.bool false)], args := [d] }
  | _ => none }
def FnPlacesOrderWrongFalsely : Prop := fnPlacesOrderRow.holds Try.pinned (OpenSpec.ofChange fnPlacesOrderWrong)

/- THE SECOND FORM. 'bulk': how many values and letters a reading holds, each counted each time it is reached (what is shared counts as often as it is met; a slice's spare places count too). A statement '..UptoSaid' is the law's where the arguments, and the package variables that the reading takes, are together of bulk at most 1048576: NARROWER than '..Said'. Prove '..Said' where nothing that the law and all that it calls make is longer than what came in: it says more and counts as full. Else prove '..UptoSaid'. A law counts once. -/
mutual
def uptoBulk {H : Type} : DataW H → Nat
  | .lit (.string bytes) => bytes.length + 1
  | .lit _ => 1
  | .nil => 1
  | .ptr d => uptoBulk d + 1
  | .slice elems spare => uptoBulkAll elems + uptoBulkAll spare + 1
  | .agg parts => uptoBulkAll parts + 1
  | .iface _ d => uptoBulk d + 1
  | .map entries => uptoBulkEntries entries + 1
  | .held _ => 1
def uptoBulkAll {H : Type} : List (DataW H) → Nat
  | [] => 0
  | d :: r => uptoBulk d + uptoBulkAll r
def uptoBulkEntries {H : Type} : List (Lit × DataW H) → Nat
  | [] => 0
  | x :: r => uptoBulkEntry x + uptoBulkEntries r
def uptoBulkEntry {H : Type} : Lit × DataW H → Nat
  | (.string bytes, d) => bytes.length + uptoBulk d + 1
  | (_, d) => uptoBulk d + 1
 end
def uptoSmall : (H : Type) → List (DataW H) → Bool := fun _ ds => decide (uptoBulkAll ds ≤ 1048576)
def OpenSpec.upto (s : _root_.Go.ChangeSpec) : _root_.Go.OpenSpec := { _root_.Go.OpenSpec.ofChange s with cond := some uptoSmall }

/-- 'laws.FnExactPlacesValid', WHERE WHAT IT READS IS OF BULK AT MOST 1048576: true; the input reads as it did. -/
def fnExactPlacesValidUptoRow : OpenClaim := { program := "ytmdaepkcemmmnaa", sum := "06197ebd1eb0d5c238b42fcc0089ffce08c6051a45243a156bf1da237c99c43a", func := "loop.example/rotorciphers/laws.FnExactPlacesValid", spec := "fnExactPlacesValid", apart := false, narrowed := true }
def FnExactPlacesValidUptoSaid : Prop := fnExactPlacesValidUptoRow.holds Try.pinned (OpenSpec.upto fnExactPlacesValidSpec)

/-- 'laws.FnPlacesValid', WHERE WHAT IT READS IS OF BULK AT MOST 1048576: true; the input reads as it did. -/
def fnPlacesValidUptoRow : OpenClaim := { program := "ytmdaepkcemmmnaa", sum := "06197ebd1eb0d5c238b42fcc0089ffce08c6051a45243a156bf1da237c99c43a", func := "loop.example/rotorciphers/laws.FnPlacesValid", spec := "fnPlacesValid", apart := false, narrowed := true }
def FnPlacesValidUptoSaid : Prop := fnPlacesValidUptoRow.holds Try.pinned (OpenSpec.upto fnPlacesValidSpec)

/-- 'laws.FnExactJoinPlaces', WHERE WHAT IT READS IS OF BULK AT MOST 1048576: true; the input reads as it did. -/
def fnExactJoinPlacesUptoRow : OpenClaim := { program := "ytmdaepkcemmmnaa", sum := "06197ebd1eb0d5c238b42fcc0089ffce08c6051a45243a156bf1da237c99c43a", func := "loop.example/rotorciphers/laws.FnExactJoinPlaces", spec := "fnExactJoinPlaces", apart := false, narrowed := true }
def FnExactJoinPlacesUptoSaid : Prop := fnExactJoinPlacesUptoRow.holds Try.pinned (OpenSpec.upto fnExactJoinPlacesSpec)

/-- 'laws.FnExactUndoPlaces', WHERE WHAT IT READS IS OF BULK AT MOST 1048576: true; the input reads as it did. -/
def fnExactUndoPlacesUptoRow : OpenClaim := { program := "ytmdaepkcemmmnaa", sum := "06197ebd1eb0d5c238b42fcc0089ffce08c6051a45243a156bf1da237c99c43a", func := "loop.example/rotorciphers/laws.FnExactUndoPlaces", spec := "fnExactUndoPlaces", apart := false, narrowed := true }
def FnExactUndoPlacesUptoSaid : Prop := fnExactUndoPlacesUptoRow.holds Try.pinned (OpenSpec.upto fnExactUndoPlacesSpec)

/-- 'laws.FnExactPlacesOrder', WHERE WHAT IT READS IS OF BULK AT MOST 1048576: true; the input reads as it did. -/
def fnExactPlacesOrderUptoRow : OpenClaim := { program := "ytmdaepkcemmmnaa", sum := "06197ebd1eb0d5c238b42fcc0089ffce08c6051a45243a156bf1da237c99c43a", func := "loop.example/rotorciphers/laws.FnExactPlacesOrder", spec := "fnExactPlacesOrder", apart := false, narrowed := true }
def FnExactPlacesOrderUptoSaid : Prop := fnExactPlacesOrderUptoRow.holds Try.pinned (OpenSpec.upto fnExactPlacesOrderSpec)

/-- 'laws.FnExactReadPlaces', WHERE WHAT IT READS IS OF BULK AT MOST 1048576: true; the input reads as it did. -/
def fnExactReadPlacesUptoRow : OpenClaim := { program := "ytmdaepkcemmmnaa", sum := "06197ebd1eb0d5c238b42fcc0089ffce08c6051a45243a156bf1da237c99c43a", func := "loop.example/rotorciphers/laws.FnExactReadPlaces", spec := "fnExactReadPlaces", apart := false, narrowed := true }
def FnExactReadPlacesUptoSaid : Prop := fnExactReadPlacesUptoRow.holds Try.pinned (OpenSpec.upto fnExactReadPlacesSpec)

/-- 'laws.FnExactRailPlaces', WHERE WHAT IT READS IS OF BULK AT MOST 1048576: true; the input reads as it did. -/
def fnExactRailPlacesUptoRow : OpenClaim := { program := "ytmdaepkcemmmnaa", sum := "06197ebd1eb0d5c238b42fcc0089ffce08c6051a45243a156bf1da237c99c43a", func := "loop.example/rotorciphers/laws.FnExactRailPlaces", spec := "fnExactRailPlaces", apart := false, narrowed := true }
def FnExactRailPlacesUptoSaid : Prop := fnExactRailPlacesUptoRow.holds Try.pinned (OpenSpec.upto fnExactRailPlacesSpec)

/-- 'laws.FnUndoTwice', WHERE WHAT IT READS IS OF BULK AT MOST 1048576: true; the input reads as it did. -/
def fnUndoTwiceUptoRow : OpenClaim := { program := "ytmdaepkcemmmnaa", sum := "06197ebd1eb0d5c238b42fcc0089ffce08c6051a45243a156bf1da237c99c43a", func := "loop.example/rotorciphers/laws.FnUndoTwice", spec := "fnUndoTwice", apart := false, narrowed := true }
def FnUndoTwiceUptoSaid : Prop := fnUndoTwiceUptoRow.holds Try.pinned (OpenSpec.upto fnUndoTwiceSpec)

/-- 'laws.FnRailSimple', WHERE WHAT IT READS IS OF BULK AT MOST 1048576: true; the input reads as it did. -/
def fnRailSimpleUptoRow : OpenClaim := { program := "ytmdaepkcemmmnaa", sum := "06197ebd1eb0d5c238b42fcc0089ffce08c6051a45243a156bf1da237c99c43a", func := "loop.example/rotorciphers/laws.FnRailSimple", spec := "fnRailSimple", apart := false, narrowed := true }
def FnRailSimpleUptoSaid : Prop := fnRailSimpleUptoRow.holds Try.pinned (OpenSpec.upto fnRailSimpleSpec)

/-- 'laws.FnJoinReads', WHERE WHAT IT READS IS OF BULK AT MOST 1048576: true; the input reads as it did. -/
def fnJoinReadsUptoRow : OpenClaim := { program := "ytmdaepkcemmmnaa", sum := "06197ebd1eb0d5c238b42fcc0089ffce08c6051a45243a156bf1da237c99c43a", func := "loop.example/rotorciphers/laws.FnJoinReads", spec := "fnJoinReads", apart := false, narrowed := true }
def FnJoinReadsUptoSaid : Prop := fnJoinReadsUptoRow.holds Try.pinned (OpenSpec.upto fnJoinReadsSpec)

/-- 'laws.FnRailPlaces', WHERE WHAT IT READS IS OF BULK AT MOST 1048576: true; the input reads as it did. -/
def fnRailPlacesUptoRow : OpenClaim := { program := "ytmdaepkcemmmnaa", sum := "06197ebd1eb0d5c238b42fcc0089ffce08c6051a45243a156bf1da237c99c43a", func := "loop.example/rotorciphers/laws.FnRailPlaces", spec := "fnRailPlaces", apart := false, narrowed := true }
def FnRailPlacesUptoSaid : Prop := fnRailPlacesUptoRow.holds Try.pinned (OpenSpec.upto fnRailPlacesSpec)

/-- 'laws.FnJoinThree', WHERE WHAT IT READS IS OF BULK AT MOST 1048576: true; the input reads as it did. -/
def fnJoinThreeUptoRow : OpenClaim := { program := "ytmdaepkcemmmnaa", sum := "06197ebd1eb0d5c238b42fcc0089ffce08c6051a45243a156bf1da237c99c43a", func := "loop.example/rotorciphers/laws.FnJoinThree", spec := "fnJoinThree", apart := false, narrowed := true }
def FnJoinThreeUptoSaid : Prop := fnJoinThreeUptoRow.holds Try.pinned (OpenSpec.upto fnJoinThreeSpec)

/-- 'laws.FnPlacesOrderCycles', WHERE WHAT IT READS IS OF BULK AT MOST 1048576: true; the input reads as it did. -/
def fnPlacesOrderCyclesUptoRow : OpenClaim := { program := "ytmdaepkcemmmnaa", sum := "06197ebd1eb0d5c238b42fcc0089ffce08c6051a45243a156bf1da237c99c43a", func := "loop.example/rotorciphers/laws.FnPlacesOrderCycles", spec := "fnPlacesOrderCycles", apart := false, narrowed := true }
def FnPlacesOrderCyclesUptoSaid : Prop := fnPlacesOrderCyclesUptoRow.holds Try.pinned (OpenSpec.upto fnPlacesOrderCyclesSpec)

/-- 'laws.FnReadUndo', WHERE WHAT IT READS IS OF BULK AT MOST 1048576: true; the input reads as it did. -/
def fnReadUndoUptoRow : OpenClaim := { program := "ytmdaepkcemmmnaa", sum := "06197ebd1eb0d5c238b42fcc0089ffce08c6051a45243a156bf1da237c99c43a", func := "loop.example/rotorciphers/laws.FnReadUndo", spec := "fnReadUndo", apart := false, narrowed := true }
def FnReadUndoUptoSaid : Prop := fnReadUndoUptoRow.holds Try.pinned (OpenSpec.upto fnReadUndoSpec)

/-- 'laws.FnPlacesOrder', WHERE WHAT IT READS IS OF BULK AT MOST 1048576: true; the input reads as it did. -/
def fnPlacesOrderUptoRow : OpenClaim := { program := "ytmdaepkcemmmnaa", sum := "06197ebd1eb0d5c238b42fcc0089ffce08c6051a45243a156bf1da237c99c43a", func := "loop.example/rotorciphers/laws.FnPlacesOrder", spec := "fnPlacesOrder", apart := false, narrowed := true }
def FnPlacesOrderUptoSaid : Prop := fnPlacesOrderUptoRow.holds Try.pinned (OpenSpec.upto fnPlacesOrderSpec)

end Rows
end Go.Proofs.Ytmdaepkcemmmnaa
