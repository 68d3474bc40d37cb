/-
  No cell of these rows narrows 'for every input' (looked for: loops, veiled, ifaces, maps, wideKeys, modest, calm, conditions, laid).
  DERIVED. THE GIVEN ROWS OF THIS SEAT. 5 by the template 'for every input the law returns true; each argument reads behind the call as it read before'; 0 by the template 'total and deterministic' (their statements: YtibjiadgmlpceaaTotals.lean).
  GIVEN WITH THE SEED: the statements are not yours to turn. If you find one false, say at which input.
  Laid BY PROGRAM, IN A SANDBOX (cutbox-rows.mjs): the forced cells as the released guide's own fill.sh prints them over the translation 050b77322e5acbe3… (all of the seat's roots in one cut). By AI agents, Wed Nov 11 2026. No macro, syntax, notation, axiom, sorry.
-/
import Derived.Test.YtibjiadgmlpceaaChecked
import GoSem.Claim
import GoSem.ClaimJoined
import GoSem.ClaimMapViews
import Derived.JoinedTies
import Derived.KernelRfl
namespace Go.Proofs.Ytibjiadgmlpceaa
/- THE CELL 'sum', in the pinned program and in every row, IS THE sha256 OF THE DUMP (.gsa) THAT YtibjiadgmlpceaaProg.lean LOADS. Nothing in Lean hashes anything: it is a label: what it is worth is what the hold of that sum in a sandbox is worth. -/
noncomputable def Try.pinned : Pinned := { name := "ytibjiadgmlpceaa", sum := "050b77322e5acbe351d103c40c2ff9dfc67862cfaee2784e8c3dbca57fde1d2d", checked := Try.checked }
namespace Rows
def none {H : Type} : Left H := { results := [], args := [] }

/-- 'laws.FnKeyMotorless': WHATEVER THE INPUT: true; the input reads as it did. -/
def fnKeyMotorlessSpec : ChangeSpec := { name := "fnKeyMotorless", fn := fun _ => fun
  | [d] => { results := [.lit (.bool true)], args := [d] }
  | _ => none }
def fnKeyMotorlessRow : OpenClaim := { program := "ytibjiadgmlpceaa", sum := "050b77322e5acbe351d103c40c2ff9dfc67862cfaee2784e8c3dbca57fde1d2d", func := "loop.example/rotorciphers/laws.FnKeyMotorless", spec := "fnKeyMotorless", apart := false }
def FnKeyMotorlessSaid : Prop := fnKeyMotorlessRow.holds Try.pinned (OpenSpec.ofChange fnKeyMotorlessSpec)

/-- ITS FALSE NEIGHBOUR: 'it returns false'. Refute it at one input. -/
def fnKeyMotorlessWrong : ChangeSpec := { name := "fnKeyMotorless", fn := fun _ => fun
  | [d] => { results := [.lit (.bool false)], args := [d] }
  | _ => none }
def FnKeyMotorlessWrongFalsely : Prop := fnKeyMotorlessRow.holds Try.pinned (OpenSpec.ofChange fnKeyMotorlessWrong)

/-- 'laws.FnKeyStops': WHATEVER THE INPUT: true; the input reads as it did. -/
def fnKeyStopsSpec : ChangeSpec := { name := "fnKeyStops", fn := fun _ => fun
  | [d] => { results := [.lit (.bool true)], args := [d] }
  | _ => none }
def fnKeyStopsRow : OpenClaim := { program := "ytibjiadgmlpceaa", sum := "050b77322e5acbe351d103c40c2ff9dfc67862cfaee2784e8c3dbca57fde1d2d", func := "loop.example/rotorciphers/laws.FnKeyStops", spec := "fnKeyStops", apart := false }
def FnKeyStopsSaid : Prop := fnKeyStopsRow.holds Try.pinned (OpenSpec.ofChange fnKeyStopsSpec)

/-- ITS FALSE NEIGHBOUR: 'it returns false'. Refute it at one input. -/
def fnKeyStopsWrong : ChangeSpec := { name := "fnKeyStops", fn := fun _ => fun
  | [d] => { results := [.lit (.bool false)], args := [d] }
  | _ => none }
def FnKeyStopsWrongFalsely : Prop := fnKeyStopsRow.holds Try.pinned (OpenSpec.ofChange fnKeyStopsWrong)

/-- 'laws.FnTelePrefix': WHATEVER THE INPUT: true; the input reads as it did. -/
def fnTelePrefixSpec : ChangeSpec := { name := "fnTelePrefix", fn := fun _ => fun
  | [d1, d2] => { results := [.lit (.bool true)], args := [d1, d2] }
  | _ => none }
def fnTelePrefixRow : OpenClaim := { program := "ytibjiadgmlpceaa", sum := "050b77322e5acbe351d103c40c2ff9dfc67862cfaee2784e8c3dbca57fde1d2d", func := "loop.example/rotorciphers/laws.FnTelePrefix", spec := "fnTelePrefix", apart := false }
def FnTelePrefixSaid : Prop := fnTelePrefixRow.holds Try.pinned (OpenSpec.ofChange fnTelePrefixSpec)

/-- ITS FALSE NEIGHBOUR: 'it returns false'. Refute it at one input. -/
def fnTelePrefixWrong : ChangeSpec := { name := "fnTelePrefix", fn := fun _ => fun
  | [d1, d2] => { results := [.lit (.bool false)], args := [d1, d2] }
  | _ => none }
def FnTelePrefixWrongFalsely : Prop := fnTelePrefixRow.holds Try.pinned (OpenSpec.ofChange fnTelePrefixWrong)

/-- 'laws.FnTeleDepth': WHATEVER THE INPUT: true; the input reads as it did. -/
def fnTeleDepthSpec : ChangeSpec := { name := "fnTeleDepth", fn := fun _ => fun
  | [d1, d2] => { results := [.lit (.bool true)], args := [d1, d2] }
  | _ => none }
def fnTeleDepthRow : OpenClaim := { program := "ytibjiadgmlpceaa", sum := "050b77322e5acbe351d103c40c2ff9dfc67862cfaee2784e8c3dbca57fde1d2d", func := "loop.example/rotorciphers/laws.FnTeleDepth", spec := "fnTeleDepth", apart := false }
def FnTeleDepthSaid : Prop := fnTeleDepthRow.holds Try.pinned (OpenSpec.ofChange fnTeleDepthSpec)

/-- ITS FALSE NEIGHBOUR: 'it returns false'. Refute it at one input. -/
def fnTeleDepthWrong : ChangeSpec := { name := "fnTeleDepth", fn := fun _ => fun
  | [d1, d2] => { results := [.lit (.bool false)], args := [d1, d2] }
  | _ => none }
def FnTeleDepthWrongFalsely : Prop := fnTeleDepthRow.holds Try.pinned (OpenSpec.ofChange fnTeleDepthWrong)

/-- 'laws.FnTeleTwice': WHATEVER THE INPUT: true; the input reads as it did. -/
def fnTeleTwiceSpec : ChangeSpec := { name := "fnTeleTwice", fn := fun _ => fun
  | [d] => { results := [.lit (.bool true)], args := [d] }
  | _ => none }
def fnTeleTwiceRow : OpenClaim := { program := "ytibjiadgmlpceaa", sum := "050b77322e5acbe351d103c40c2ff9dfc67862cfaee2784e8c3dbca57fde1d2d", func := "loop.example/rotorciphers/laws.FnTeleTwice", spec := "fnTeleTwice", apart := false }
def FnTeleTwiceSaid : Prop := fnTeleTwiceRow.holds Try.pinned (OpenSpec.ofChange fnTeleTwiceSpec)

/-- ITS FALSE NEIGHBOUR: 'it returns false'. Refute it at one input. -/
def fnTeleTwiceWrong : ChangeSpec := { name := "fnTeleTwice", fn := fun _ => fun
  | [d] => { results := [.lit (.bool false)], args := [d] }
  | _ => none }
def FnTeleTwiceWrongFalsely : Prop := fnTeleTwiceRow.holds Try.pinned (OpenSpec.ofChange fnTeleTwiceWrong)

/- THE SECOND FORM. 'bulk': how many values and letters a reading holds, each counted each time it is reached (what is shared counts as often as it is met; a slice's spare places count too). A statement '..UptoSaid' is the law's where the arguments, and the package variables that the reading takes, are together of bulk at most 1048576: NARROWER than '..Said'. Prove '..Said' where nothing that the law and all that it calls make is longer than what came in: it says more and counts as full. Else prove '..UptoSaid'. A law counts once. -/
mutual
def uptoBulk {H : Type} : DataW H → Nat
  | .lit (.string bytes) => bytes.length + 1
  | .lit _ => 1
  | .nil => 1
  | .ptr d => uptoBulk d + 1
  | .slice elems spare => uptoBulkAll elems + uptoBulkAll spare + 1
  | .agg parts => uptoBulkAll parts + 1
  | .iface _ d => uptoBulk d + 1
  | .map entries => uptoBulkEntries entries + 1
  | .held _ => 1
def uptoBulkAll {H : Type} : List (DataW H) → Nat
  | [] => 0
  | d :: r => uptoBulk d + uptoBulkAll r
def uptoBulkEntries {H : Type} : List (Lit × DataW H) → Nat
  | [] => 0
  | x :: r => uptoBulkEntry x + uptoBulkEntries r
def uptoBulkEntry {H : Type} : Lit × DataW H → Nat
  | (.string bytes, d) => bytes.length + uptoBulk d + 1
  | (_, d) => uptoBulk d + 1
 end
def uptoSmall : (H : Type) → List (DataW H) → Bool := fun _ ds => decide (uptoBulkAll ds ≤ 1048576)
def OpenSpec.upto (s : _root_.Go.ChangeSpec) : _root_.Go.OpenSpec := { _root_.Go.OpenSpec.ofChange s with cond := some uptoSmall }

/-- 'laws.FnKeyMotorless', WHERE WHAT IT READS IS OF BULK AT MOST 1048576: true; the input reads as it did. -/
def fnKeyMotorlessUptoRow : OpenClaim := { program := "ytibjiadgmlpceaa", sum := "050b77322e5acbe351d103c40c2ff9dfc67862cfaee2784e8c3dbca57fde1d2d", func := "loop.example/rotorciphers/laws.FnKeyMotorless", spec := "fnKeyMotorless", apart := false, narrowed := true }
def FnKeyMotorlessUptoSaid : Prop := fnKeyMotorlessUptoRow.holds Try.pinned (OpenSpec.upto fnKeyMotorlessSpec)

/-- 'laws.FnKeyStops', WHERE WHAT IT READS IS OF BULK AT MOST 1048576: true; the input reads as it did. -/
def fnKeyStopsUptoRow : OpenClaim := { program := "ytibjiadgmlpceaa", sum := "050b77322e5acbe351d103c40c2ff9dfc67862cfaee2784e8c3dbca57fde1d2d", func := "loop.example/rotorciphers/laws.FnKeyStops", spec := "fnKeyStops", apart := false, narrowed := true }
def FnKeyStopsUptoSaid : Prop := fnKeyStopsUptoRow.holds Try.pinned (OpenSpec.upto fnKeyStopsSpec)

/-- 'laws.FnTelePrefix', WHERE WHAT IT READS IS OF BULK AT MOST 1048576: true; the input reads as it did. -/
def fnTelePrefixUptoRow : OpenClaim := { program := "ytibjiadgmlpceaa", sum := "050b77322e5acbe351d103c40c2ff9dfc67862cfaee2784e8c3dbca57fde1d2d", func := "loop.example/rotorciphers/laws.FnTelePrefix", spec := "fnTelePrefix", apart := false, narrowed := true }
def FnTelePrefixUptoSaid : Prop := fnTelePrefixUptoRow.holds Try.pinned (OpenSpec.upto fnTelePrefixSpec)

/-- 'laws.FnTeleDepth', WHERE WHAT IT READS IS OF BULK AT MOST 1048576: true; the input reads as it did. -/
def fnTeleDepthUptoRow : OpenClaim := { program := "ytibjiadgmlpceaa", sum := "050b77322e5acbe351d103c40c2ff9dfc67862cfaee2784e8c3dbca57fde1d2d", func := "loop.example/rotorciphers/laws.FnTeleDepth", spec := "fnTeleDepth", apart := false, narrowed := true }
def FnTeleDepthUptoSaid : Prop := fnTeleDepthUptoRow.holds Try.pinned (OpenSpec.upto fnTeleDepthSpec)

/-- 'laws.FnTeleTwice', WHERE WHAT IT READS IS OF BULK AT MOST 1048576: true; the input reads as it did. -/
def fnTeleTwiceUptoRow : OpenClaim := { program := "ytibjiadgmlpceaa", sum := "050b77322e5acbe351d103c40c2ff9dfc67862cfaee2784e8c3dbca57fde1d2d", func := "loop.example/rotorciphers/laws.FnTeleTwice", spec := "fnTeleTwice", apart := false, narrowed := true }
def FnTeleTwiceUptoSaid : Prop := fnTeleTwiceUptoRow.holds Try.pinned (OpenSpec.upto fnTeleTwiceSpec)

end Rows
end Go.Proofs.Ytibjiadgmlpceaa
