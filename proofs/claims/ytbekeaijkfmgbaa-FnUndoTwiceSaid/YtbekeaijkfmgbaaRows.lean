/-
  No cell of these rows narrows 'for every input' (looked for: loops, veiled, ifaces, maps, wideKeys, modest, calm, conditions, laid).
  DERIVED. THE GIVEN ROWS OF THIS SEAT. 6 by the template 'for every input the law returns true; each argument reads behind the call as it read before'; 0 by the template 'total and deterministic' (their statements: YtbekeaijkfmgbaaTotals.lean).
  GIVEN WITH THE SEED: the statements are not yours to turn. If you find one false, say at which input.
  Laid BY PROGRAM, IN A SANDBOX (cutbox-rows.mjs): the forced cells as the released guide's own fill.sh prints them over the translation 4ba3a29adfa7ff1d… (all of the seat's roots in one cut). By AI agents, Wed Nov 11 2026. No macro, syntax, notation, axiom, sorry.
-/
import Derived.Test.YtbekeaijkfmgbaaChecked
import GoSem.Claim
import GoSem.ClaimJoined
import GoSem.ClaimMapViews
import Derived.JoinedTies
import Derived.KernelRfl
namespace Go.Proofs.Ytbekeaijkfmgbaa
/- THE CELL 'sum', in the pinned program and in every row, IS THE sha256 OF THE DUMP (.gsa) THAT YtbekeaijkfmgbaaProg.lean LOADS. Nothing in Lean hashes anything: it is a label: what it is worth is what the hold of that sum in a sandbox is worth. -/
noncomputable def Try.pinned : Pinned := { name := "ytbekeaijkfmgbaa", sum := "4ba3a29adfa7ff1d0ad309f0b9d2460cd5250b3b1e4d2990f22cb046a6762229", checked := Try.checked }
namespace Rows
def none {H : Type} : Left H := { results := [], args := [] }

/-- 'laws.FnExactPlacesValid': WHATEVER THE INPUT: true; the input reads as it did. -/
def fnExactPlacesValidSpec : ChangeSpec := { name := "fnExactPlacesValid", fn := fun _ => fun
  | [d] => { results := [.lit (.bool true)], args := [d] }
  | _ => none }
def fnExactPlacesValidRow : OpenClaim := { program := "ytbekeaijkfmgbaa", sum := "4ba3a29adfa7ff1d0ad309f0b9d2460cd5250b3b1e4d2990f22cb046a6762229", func := "loop.example/rotorciphers/laws.FnExactPlacesValid", spec := "fnExactPlacesValid", apart := false }
def FnExactPlacesValidSaid : Prop := fnExactPlacesValidRow.holds Try.pinned (OpenSpec.ofChange fnExactPlacesValidSpec)

/-- ITS FALSE NEIGHBOUR: 'it returns false'. Refute it at one input. -/
def fnExactPlacesValidWrong : ChangeSpec := { name := "fnExactPlacesValid", fn := fun _ => fun
  | [d] => { results := [.lit (.bool false)], args := [d] }
  | _ => none }
def FnExactPlacesValidWrongFalsely : Prop := fnExactPlacesValidRow.holds Try.pinned (OpenSpec.ofChange fnExactPlacesValidWrong)

/-- 'laws.FnPlacesValid': WHATEVER THE INPUT: true; the input reads as it did. -/
def fnPlacesValidSpec : ChangeSpec := { name := "fnPlacesValid", fn := fun _ => fun
  | [d] => { results := [.lit (.bool true)], args := [d] }
  | _ => none }
def fnPlacesValidRow : OpenClaim := { program := "ytbekeaijkfmgbaa", sum := "4ba3a29adfa7ff1d0ad309f0b9d2460cd5250b3b1e4d2990f22cb046a6762229", func := "loop.example/rotorciphers/laws.FnPlacesValid", spec := "fnPlacesValid", apart := false }
def FnPlacesValidSaid : Prop := fnPlacesValidRow.holds Try.pinned (OpenSpec.ofChange fnPlacesValidSpec)

/-- ITS FALSE NEIGHBOUR: 'it returns false'. Refute it at one input. -/
def fnPlacesValidWrong : ChangeSpec := { name := "fnPlacesValid", fn := fun _ => fun
  | [d] => { results := [.lit (.bool false)], args := [d] }
  | _ => none }
def FnPlacesValidWrongFalsely : Prop := fnPlacesValidRow.holds Try.pinned (OpenSpec.ofChange fnPlacesValidWrong)

/-- 'laws.FnExactJoinPlaces': WHATEVER THE INPUT: true; the input reads as it did. -/
def fnExactJoinPlacesSpec : ChangeSpec := { name := "fnExactJoinPlaces", fn := fun _ => fun
  | [d1, d2] => { results := [.lit (.bool true)], args := [d1, d2] }
  | _ => none }
def fnExactJoinPlacesRow : OpenClaim := { program := "ytbekeaijkfmgbaa", sum := "4ba3a29adfa7ff1d0ad309f0b9d2460cd5250b3b1e4d2990f22cb046a6762229", func := "loop.example/rotorciphers/laws.FnExactJoinPlaces", spec := "fnExactJoinPlaces", apart := false }
def FnExactJoinPlacesSaid : Prop := fnExactJoinPlacesRow.holds Try.pinned (OpenSpec.ofChange fnExactJoinPlacesSpec)

/-- ITS FALSE NEIGHBOUR: 'it returns false'. Refute it at one input. -/
def fnExactJoinPlacesWrong : ChangeSpec := { name := "fnExactJoinPlaces", fn := fun _ => fun
  | [d1, d2] => { results := [.lit (.bool false)], args := [d1, d2] }
  | _ => none }
def FnExactJoinPlacesWrongFalsely : Prop := fnExactJoinPlacesRow.holds Try.pinned (OpenSpec.ofChange fnExactJoinPlacesWrong)

/-- 'laws.FnExactUndoPlaces': WHATEVER THE INPUT: true; the input reads as it did. -/
def fnExactUndoPlacesSpec : ChangeSpec := { name := "fnExactUndoPlaces", fn := fun _ => fun
  | [d] => { results := [.lit (.bool true)], args := [d] }
  | _ => none }
def fnExactUndoPlacesRow : OpenClaim := { program := "ytbekeaijkfmgbaa", sum := "4ba3a29adfa7ff1d0ad309f0b9d2460cd5250b3b1e4d2990f22cb046a6762229", func := "loop.example/rotorciphers/laws.FnExactUndoPlaces", spec := "fnExactUndoPlaces", apart := false }
def FnExactUndoPlacesSaid : Prop := fnExactUndoPlacesRow.holds Try.pinned (OpenSpec.ofChange fnExactUndoPlacesSpec)

/-- ITS FALSE NEIGHBOUR: 'it returns false'. Refute it at one input. -/
def fnExactUndoPlacesWrong : ChangeSpec := { name := "fnExactUndoPlaces", fn := fun _ => fun
  | [d] => { results := [.lit (.bool false)], args := [d] }
  | _ => none }
def FnExactUndoPlacesWrongFalsely : Prop := fnExactUndoPlacesRow.holds Try.pinned (OpenSpec.ofChange fnExactUndoPlacesWrong)

/-- 'laws.FnExactReadPlaces': WHATEVER THE INPUT: true; the input reads as it did. -/
def fnExactReadPlacesSpec : ChangeSpec := { name := "fnExactReadPlaces", fn := fun _ => fun
  | [d1, d2] => { results := [.lit (.bool true)], args := [d1, d2] }
  | _ => none }
def fnExactReadPlacesRow : OpenClaim := { program := "ytbekeaijkfmgbaa", sum := "4ba3a29adfa7ff1d0ad309f0b9d2460cd5250b3b1e4d2990f22cb046a6762229", func := "loop.example/rotorciphers/laws.FnExactReadPlaces", spec := "fnExactReadPlaces", apart := false }
def FnExactReadPlacesSaid : Prop := fnExactReadPlacesRow.holds Try.pinned (OpenSpec.ofChange fnExactReadPlacesSpec)

/-- ITS FALSE NEIGHBOUR: 'it returns false'. Refute it at one input. -/
def fnExactReadPlacesWrong : ChangeSpec := { name := "fnExactReadPlaces", fn := fun _ => fun
  | [d1, d2] => { results := [.lit (.bool false)], args := [d1, d2] }
  | _ => none }
def FnExactReadPlacesWrongFalsely : Prop := fnExactReadPlacesRow.holds Try.pinned (OpenSpec.ofChange fnExactReadPlacesWrong)

/-- 'laws.FnUndoTwice': WHATEVER THE INPUT: true; the input reads as it did. -/
def fnUndoTwiceSpec : ChangeSpec := { name := "fnUndoTwice", fn := fun _ => fun
  | [d] => { results := [.lit (.bool true)], args := [d] }
  | _ => none }
def fnUndoTwiceRow : OpenClaim := { program := "ytbekeaijkfmgbaa", sum := "4ba3a29adfa7ff1d0ad309f0b9d2460cd5250b3b1e4d2990f22cb046a6762229", func := "loop.example/rotorciphers/laws.FnUndoTwice", spec := "fnUndoTwice", apart := false }
def FnUndoTwiceSaid : Prop := fnUndoTwiceRow.holds Try.pinned (OpenSpec.ofChange fnUndoTwiceSpec)

/-- ITS FALSE NEIGHBOUR: 'it returns false'. Refute it at one input. -/
def fnUndoTwiceWrong : ChangeSpec := { name := "fnUndoTwice", fn := fun _ => fun
  | [d] => { results := [.lit (.bool false)], args := [d] }
  | _ => none }
def FnUndoTwiceWrongFalsely : Prop := fnUndoTwiceRow.holds Try.pinned (OpenSpec.ofChange fnUndoTwiceWrong)

/- THE SECOND FORM. 'bulk': how many values and letters a reading holds, each counted each time it is reached (what is shared counts as often as it is met; a slice's spare places count too). A statement '..UptoSaid' is the law's where the arguments, and the package variables that the reading takes, are together of bulk at most 1048576: NARROWER than '..Said'. Prove '..Said' where nothing that the law and all that it calls make is longer than what came in: it says more and counts as full. Else prove '..UptoSaid'. A law counts once. -/
mutual
def uptoBulk {H : Type} : DataW H → Nat
  | .lit (.string bytes) => bytes.length + 1
  | .lit _ => 1
  | .nil => 1
  | .ptr d => uptoBulk d + 1
  | .slice elems spare => uptoBulkAll elems + uptoBulkAll spare + 1
  | .agg parts => uptoBulkAll parts + 1
  | .iface _ d => uptoBulk d + 1
  | .map entries => uptoBulkEntries entries + 1
  | .held _ => 1
def uptoBulkAll {H : Type} : List (DataW H) → Nat
  | [] => 0
  | d :: r => uptoBulk d + uptoBulkAll r
def uptoBulkEntries {H : Type} : List (Lit × DataW H) → Nat
  | [] => 0
  | x :: r => uptoBulkEntry x + uptoBulkEntries r
def uptoBulkEntry {H : Type} : Lit × DataW H → Nat
  | (.string bytes, d) => bytes.length + uptoBulk d + 1
  | (_, d) => uptoBulk d + 1
 end
def uptoSmall : (H : Type) → List (DataW H) → Bool := fun _ ds => decide (uptoBulkAll ds ≤ 1048576)
def OpenSpec.upto (s : _root_.Go.ChangeSpec) : _root_.Go.OpenSpec := { _root_.Go.OpenSpec.ofChange s with cond := some uptoSmall }

/-- 'laws.FnExactPlacesValid', WHERE WHAT IT READS IS OF BULK AT MOST 1048576: true; the input reads as it did. -/
def fnExactPlacesValidUptoRow : OpenClaim := { program := "ytbekeaijkfmgbaa", sum := "4ba3a29adfa7ff1d0ad309f0b9d2460cd5250b3b1e4d2990f22cb046a6762229", func := "loop.example/rotorciphers/laws.FnExactPlacesValid", spec := "fnExactPlacesValid", apart := false, narrowed := true }
def FnExactPlacesValidUptoSaid : Prop := fnExactPlacesValidUptoRow.holds Try.pinned (OpenSpec.upto fnExactPlacesValidSpec)

/-- 'laws.FnPlacesValid', WHERE WHAT IT READS IS OF BULK AT MOST 1048576: true; the input reads as it did. -/
def fnPlacesValidUptoRow : OpenClaim := { program := "ytbekeaijkfmgbaa", sum := "4ba3a29adfa7ff1d0ad309f0b9d2460cd5250b3b1e4d2990f22cb046a6762229", func := "loop.example/rotorciphers/laws.FnPlacesValid", spec := "fnPlacesValid", apart := false, narrowed := true }
def FnPlacesValidUptoSaid : Prop := fnPlacesValidUptoRow.holds Try.pinned (OpenSpec.upto fnPlacesValidSpec)

/-- 'laws.FnExactJoinPlaces', WHERE WHAT IT READS IS OF BULK AT MOST 1048576: true; the input reads as it did. -/
def fnExactJoinPlacesUptoRow : OpenClaim := { program := "ytbekeaijkfmgbaa", sum := "4ba3a29adfa7ff1d0ad309f0b9d2460cd5250b3b1e4d2990f22cb046a6762229", func := "loop.example/rotorciphers/laws.FnExactJoinPlaces", spec := "fnExactJoinPlaces", apart := false, narrowed := true }
def FnExactJoinPlacesUptoSaid : Prop := fnExactJoinPlacesUptoRow.holds Try.pinned (OpenSpec.upto fnExactJoinPlacesSpec)

/-- 'laws.FnExactUndoPlaces', WHERE WHAT IT READS IS OF BULK AT MOST 1048576: true; the input reads as it did. -/
def fnExactUndoPlacesUptoRow : OpenClaim := { program := "ytbekeaijkfmgbaa", sum := "4ba3a29adfa7ff1d0ad309f0b9d2460cd5250b3b1e4d2990f22cb046a6762229", func := "loop.example/rotorciphers/laws.FnExactUndoPlaces", spec := "fnExactUndoPlaces", apart := false, narrowed := true }
def FnExactUndoPlacesUptoSaid : Prop := fnExactUndoPlacesUptoRow.holds Try.pinned (OpenSpec.upto fnExactUndoPlacesSpec)

/-- 'laws.FnExactReadPlaces', WHERE WHAT IT READS IS OF BULK AT MOST 1048576: true; the input reads as it did. -/
def fnExactReadPlacesUptoRow : OpenClaim := { program := "ytbekeaijkfmgbaa", sum := "4ba3a29adfa7ff1d0ad309f0b9d2460cd5250b3b1e4d2990f22cb046a6762229", func := "loop.example/rotorciphers/laws.FnExactReadPlaces", spec := "fnExactReadPlaces", apart := false, narrowed := true }
def FnExactReadPlacesUptoSaid : Prop := fnExactReadPlacesUptoRow.holds Try.pinned (OpenSpec.upto fnExactReadPlacesSpec)

/-- 'laws.FnUndoTwice', WHERE WHAT IT READS IS OF BULK AT MOST 1048576: true; the input reads as it did. -/
def fnUndoTwiceUptoRow : OpenClaim := { program := "ytbekeaijkfmgbaa", sum := "4ba3a29adfa7ff1d0ad309f0b9d2460cd5250b3b1e4d2990f22cb046a6762229", func := "loop.example/rotorciphers/laws.FnUndoTwice", spec := "fnUndoTwice", apart := false, narrowed := true }
def FnUndoTwiceUptoSaid : Prop := fnUndoTwiceUptoRow.holds Try.pinned (OpenSpec.upto fnUndoTwiceSpec)

end Rows
end Go.Proofs.Ytbekeaijkfmgbaa
