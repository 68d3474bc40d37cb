/-
  No cell of these rows narrows 'for every input' (looked for: loops, veiled, ifaces, maps, wideKeys, modest, calm, conditions, laid).
  DERIVED. THE GIVEN ROWS OF THIS SEAT. 7 by the template 'for every input the law returns true; each argument reads behind the call as it read before'; 0 by the template 'total and deterministic' (their statements: YtggjlagfjggmiaaTotals.lean).
  GIVEN WITH THE SEED: the statements are not yours to turn. If you find one false, say at which input.
  Laid BY PROGRAM, IN A SANDBOX (cutbox-rows.mjs): the forced cells as the released guide's own fill.sh prints them over the translation 5176abd1d352d11b… (all of the seat's roots in one cut). By AI agents, Wed Nov 11 2026. No macro, syntax, notation, axiom, sorry.
-/
import Derived.Test.YtggjlagfjggmiaaChecked
import GoSem.Claim
import GoSem.ClaimJoined
import GoSem.ClaimMapViews
import Derived.JoinedTies
import Derived.KernelRfl
namespace Go.Proofs.Ytggjlagfjggmiaa
/- THE CELL 'sum', in the pinned program and in every row, IS THE sha256 OF THE DUMP (.gsa) THAT YtggjlagfjggmiaaProg.lean LOADS. Nothing in Lean hashes anything: it is a label: what it is worth is what the hold of that sum in a sandbox is worth. -/
noncomputable def Try.pinned : Pinned := { name := "ytggjlagfjggmiaa", sum := "5176abd1d352d11ba29f94feee2aeec0ba1c23513fdf7d41a2317e5ce2aa78a6", checked := Try.checked }
namespace Rows
def none {H : Type} : Left H := { results := [], args := [] }

/-- 'laws.FnExactKeyOrder': WHATEVER THE INPUT: true; the input reads as it did. -/
def fnExactKeyOrderSpec : ChangeSpec := { name := "fnExactKeyOrder", fn := fun _ => fun
  | [d] => { results := [.lit (.bool true)], args := [d] }
  | _ => none }
def fnExactKeyOrderRow : OpenClaim := { program := "ytggjlagfjggmiaa", sum := "5176abd1d352d11ba29f94feee2aeec0ba1c23513fdf7d41a2317e5ce2aa78a6", func := "loop.example/rotorciphers/laws.FnExactKeyOrder", spec := "fnExactKeyOrder", unfollowed := true, recurses := true, apart := false }
def FnExactKeyOrderSaid : Prop := fnExactKeyOrderRow.holds Try.pinned (OpenSpec.ofChange fnExactKeyOrderSpec)

/-- ITS FALSE NEIGHBOUR: 'it returns false'. Refute it at one input. -/
def fnExactKeyOrderWrong : ChangeSpec := { name := "fnExactKeyOrder", fn := fun _ => fun
  | [d] => { results := [.lit (.bool false)], args := [d] }
  | _ => none }
def FnExactKeyOrderWrongFalsely : Prop := fnExactKeyOrderRow.holds Try.pinned (OpenSpec.ofChange fnExactKeyOrderWrong)

/-- 'laws.FnExactColumnPlaces': WHATEVER THE INPUT: true; the input reads as it did. -/
def fnExactColumnPlacesSpec : ChangeSpec := { name := "fnExactColumnPlaces", fn := fun _ => fun
  | [d1, d2] => { results := [.lit (.bool true)], args := [d1, d2] }
  | _ => none }
def fnExactColumnPlacesRow : OpenClaim := { program := "ytggjlagfjggmiaa", sum := "5176abd1d352d11ba29f94feee2aeec0ba1c23513fdf7d41a2317e5ce2aa78a6", func := "loop.example/rotorciphers/laws.FnExactColumnPlaces", spec := "fnExactColumnPlaces", unfollowed := true, recurses := true, apart := false }
def FnExactColumnPlacesSaid : Prop := fnExactColumnPlacesRow.holds Try.pinned (OpenSpec.ofChange fnExactColumnPlacesSpec)

/-- ITS FALSE NEIGHBOUR: 'it returns false'. Refute it at one input. -/
def fnExactColumnPlacesWrong : ChangeSpec := { name := "fnExactColumnPlaces", fn := fun _ => fun
  | [d1, d2] => { results := [.lit (.bool false)], args := [d1, d2] }
  | _ => none }
def FnExactColumnPlacesWrongFalsely : Prop := fnExactColumnPlacesRow.holds Try.pinned (OpenSpec.ofChange fnExactColumnPlacesWrong)

/-- 'laws.FnKeyOrder': WHATEVER THE INPUT: true; the input reads as it did. -/
def fnKeyOrderSpec : ChangeSpec := { name := "fnKeyOrder", fn := fun _ => fun
  | [d] => { results := [.lit (.bool true)], args := [d] }
  | _ => none }
def fnKeyOrderRow : OpenClaim := { program := "ytggjlagfjggmiaa", sum := "5176abd1d352d11ba29f94feee2aeec0ba1c23513fdf7d41a2317e5ce2aa78a6", func := "loop.example/rotorciphers/laws.FnKeyOrder", spec := "fnKeyOrder", unfollowed := true, recurses := true, apart := false }
def FnKeyOrderSaid : Prop := fnKeyOrderRow.holds Try.pinned (OpenSpec.ofChange fnKeyOrderSpec)

/-- ITS FALSE NEIGHBOUR: 'it returns false'. Refute it at one input. -/
def fnKeyOrderWrong : ChangeSpec := { name := "fnKeyOrder", fn := fun _ => fun
  | [d] => { results := [.lit (.bool false)], args := [d] }
  | _ => none }
def FnKeyOrderWrongFalsely : Prop := fnKeyOrderRow.holds Try.pinned (OpenSpec.ofChange fnKeyOrderWrong)

/-- 'laws.FnKeyOrderShape': WHATEVER THE INPUT: true; the input reads as it did. -/
def fnKeyOrderShapeSpec : ChangeSpec := { name := "fnKeyOrderShape", fn := fun _ => fun
  | [d1, d2] => { results := [.lit (.bool true)], args := [d1, d2] }
  | _ => none }
def fnKeyOrderShapeRow : OpenClaim := { program := "ytggjlagfjggmiaa", sum := "5176abd1d352d11ba29f94feee2aeec0ba1c23513fdf7d41a2317e5ce2aa78a6", func := "loop.example/rotorciphers/laws.FnKeyOrderShape", spec := "fnKeyOrderShape", unfollowed := true, recurses := true, apart := false }
def FnKeyOrderShapeSaid : Prop := fnKeyOrderShapeRow.holds Try.pinned (OpenSpec.ofChange fnKeyOrderShapeSpec)

/-- ITS FALSE NEIGHBOUR: 'it returns false'. Refute it at one input. -/
def fnKeyOrderShapeWrong : ChangeSpec := { name := "fnKeyOrderShape", fn := fun _ => fun
  | [d1, d2] => { results := [.lit (.bool false)], args := [d1, d2] }
  | _ => none }
def FnKeyOrderShapeWrongFalsely : Prop := fnKeyOrderShapeRow.holds Try.pinned (OpenSpec.ofChange fnKeyOrderShapeWrong)

/-- 'laws.FnColumnPlaces': WHATEVER THE INPUT: true; the input reads as it did. -/
def fnColumnPlacesSpec : ChangeSpec := { name := "fnColumnPlaces", fn := fun _ => fun
  | [d] => { results := [.lit (.bool true)], args := [d] }
  | _ => none }
def fnColumnPlacesRow : OpenClaim := { program := "ytggjlagfjggmiaa", sum := "5176abd1d352d11ba29f94feee2aeec0ba1c23513fdf7d41a2317e5ce2aa78a6", func := "loop.example/rotorciphers/laws.FnColumnPlaces", spec := "fnColumnPlaces", unfollowed := true, recurses := true, apart := false }
def FnColumnPlacesSaid : Prop := fnColumnPlacesRow.holds Try.pinned (OpenSpec.ofChange fnColumnPlacesSpec)

/-- ITS FALSE NEIGHBOUR: 'it returns false'. Refute it at one input. -/
def fnColumnPlacesWrong : ChangeSpec := { name := "fnColumnPlaces", fn := fun _ => fun
  | [d] => { results := [.lit (.bool false)], args := [d] }
  | _ => none }
def FnColumnPlacesWrongFalsely : Prop := fnColumnPlacesRow.holds Try.pinned (OpenSpec.ofChange fnColumnPlacesWrong)

/-- 'laws.FnExactTranspose': WHATEVER THE INPUT: true; the input reads as it did. -/
def fnExactTransposeSpec : ChangeSpec := { name := "fnExactTranspose", fn := fun _ => fun
  | [d1, d2] => { results := [.lit (.bool true)], args := [d1, d2] }
  | _ => none }
def fnExactTransposeRow : OpenClaim := { program := "ytggjlagfjggmiaa", sum := "5176abd1d352d11ba29f94feee2aeec0ba1c23513fdf7d41a2317e5ce2aa78a6", func := "loop.example/rotorciphers/laws.FnExactTranspose", spec := "fnExactTranspose", unfollowed := true, recurses := true, apart := false }
def FnExactTransposeSaid : Prop := fnExactTransposeRow.holds Try.pinned (OpenSpec.ofChange fnExactTransposeSpec)

/-- ITS FALSE NEIGHBOUR: 'it returns false'. Refute it at one input. -/
def fnExactTransposeWrong : ChangeSpec := { name := "fnExactTranspose", fn := fun _ => fun
  | [d1, d2] => { results := [.lit (.bool false)], args := [d1, d2] }
  | _ => none }
def FnExactTransposeWrongFalsely : Prop := fnExactTransposeRow.holds Try.pinned (OpenSpec.ofChange fnExactTransposeWrong)

/-- 'laws.FnExactUntranspose': WHATEVER THE INPUT: true; the input reads as it did. -/
def fnExactUntransposeSpec : ChangeSpec := { name := "fnExactUntranspose", fn := fun _ => fun
  | [d1, d2] => { results := [.lit (.bool true)], args := [d1, d2] }
  | _ => none }
def fnExactUntransposeRow : OpenClaim := { program := "ytggjlagfjggmiaa", sum := "5176abd1d352d11ba29f94feee2aeec0ba1c23513fdf7d41a2317e5ce2aa78a6", func := "loop.example/rotorciphers/laws.FnExactUntranspose", spec := "fnExactUntranspose", unfollowed := true, recurses := true, apart := false }
def FnExactUntransposeSaid : Prop := fnExactUntransposeRow.holds Try.pinned (OpenSpec.ofChange fnExactUntransposeSpec)

/-- ITS FALSE NEIGHBOUR: 'it returns false'. Refute it at one input. -/
def fnExactUntransposeWrong : ChangeSpec := { name := "fnExactUntranspose", fn := fun _ => fun
  | [d1, d2] => { results := [.lit (.bool false)], args := [d1, d2] }
  | _ => none }
def FnExactUntransposeWrongFalsely : Prop := fnExactUntransposeRow.holds Try.pinned (OpenSpec.ofChange fnExactUntransposeWrong)

/- THE SECOND FORM. 'bulk': how many values and letters a reading holds, each counted each time it is reached (what is shared counts as often as it is met; a slice's spare places count too). A statement '..UptoSaid' is the law's where the arguments, and the package variables that the reading takes, are together of bulk at most 1048576: NARROWER than '..Said'. Prove '..Said' where nothing that the law and all that it calls make is longer than what came in: it says more and counts as full. Else prove '..UptoSaid'. A law counts once. -/
mutual
def uptoBulk {H : Type} : DataW H → Nat
  | .lit (.string bytes) => bytes.length + 1
  | .lit _ => 1
  | .nil => 1
  | .ptr d => uptoBulk d + 1
  | .slice elems spare => uptoBulkAll elems + uptoBulkAll spare + 1
  | .agg parts => uptoBulkAll parts + 1
  | .iface _ d => uptoBulk d + 1
  | .map entries => uptoBulkEntries entries + 1
  | .held _ => 1
def uptoBulkAll {H : Type} : List (DataW H) → Nat
  | [] => 0
  | d :: r => uptoBulk d + uptoBulkAll r
def uptoBulkEntries {H : Type} : List (Lit × DataW H) → Nat
  | [] => 0
  | x :: r => uptoBulkEntry x + uptoBulkEntries r
def uptoBulkEntry {H : Type} : Lit × DataW H → Nat
  | (.string bytes, d) => bytes.length + uptoBulk d + 1
  | (_, d) => uptoBulk d + 1
 end
def uptoSmall : (H : Type) → List (DataW H) → Bool := fun _ ds => decide (uptoBulkAll ds ≤ 1048576)
def OpenSpec.upto (s : _root_.Go.ChangeSpec) : _root_.Go.OpenSpec := { _root_.Go.OpenSpec.ofChange s with cond := some uptoSmall }

/-- 'laws.FnExactKeyOrder', WHERE WHAT IT READS IS OF BULK AT MOST 1048576: true; the input reads as it did. -/
def fnExactKeyOrderUptoRow : OpenClaim := { program := "ytggjlagfjggmiaa", sum := "5176abd1d352d11ba29f94feee2aeec0ba1c23513fdf7d41a2317e5ce2aa78a6", func := "loop.example/rotorciphers/laws.FnExactKeyOrder", spec := "fnExactKeyOrder", unfollowed := true, recurses := true, apart := false, narrowed := true }
def FnExactKeyOrderUptoSaid : Prop := fnExactKeyOrderUptoRow.holds Try.pinned (OpenSpec.upto fnExactKeyOrderSpec)

/-- 'laws.FnExactColumnPlaces', WHERE WHAT IT READS IS OF BULK AT MOST 1048576: true; the input reads as it did. -/
def fnExactColumnPlacesUptoRow : OpenClaim := { program := "ytggjlagfjggmiaa", sum := "5176abd1d352d11ba29f94feee2aeec0ba1c23513fdf7d41a2317e5ce2aa78a6", func := "loop.example/rotorciphers/laws.FnExactColumnPlaces", spec := "fnExactColumnPlaces", unfollowed := true, recurses := true, apart := false, narrowed := true }
def FnExactColumnPlacesUptoSaid : Prop := fnExactColumnPlacesUptoRow.holds Try.pinned (OpenSpec.upto fnExactColumnPlacesSpec)

/-- 'laws.FnKeyOrder', WHERE WHAT IT READS IS OF BULK AT MOST 1048576: true; the input reads as it did. -/
def fnKeyOrderUptoRow : OpenClaim := { program := "ytggjlagfjggmiaa", sum := "5176abd1d352d11ba29f94feee2aeec0ba1c23513fdf7d41a2317e5ce2aa78a6", func := "loop.example/rotorciphers/laws.FnKeyOrder", spec := "fnKeyOrder", unfollowed := true, recurses := true, apart := false, narrowed := true }
def FnKeyOrderUptoSaid : Prop := fnKeyOrderUptoRow.holds Try.pinned (OpenSpec.upto fnKeyOrderSpec)

/-- 'laws.FnKeyOrderShape', WHERE WHAT IT READS IS OF BULK AT MOST 1048576: true; the input reads as it did. -/
def fnKeyOrderShapeUptoRow : OpenClaim := { program := "ytggjlagfjggmiaa", sum := "5176abd1d352d11ba29f94feee2aeec0ba1c23513fdf7d41a2317e5ce2aa78a6", func := "loop.example/rotorciphers/laws.FnKeyOrderShape", spec := "fnKeyOrderShape", unfollowed := true, recurses := true, apart := false, narrowed := true }
def FnKeyOrderShapeUptoSaid : Prop := fnKeyOrderShapeUptoRow.holds Try.pinned (OpenSpec.upto fnKeyOrderShapeSpec)

/-- 'laws.FnColumnPlaces', WHERE WHAT IT READS IS OF BULK AT MOST 1048576: true; the input reads as it did. -/
def fnColumnPlacesUptoRow : OpenClaim := { program := "ytggjlagfjggmiaa", sum := "5176abd1d352d11ba29f94feee2aeec0ba1c23513fdf7d41a2317e5ce2aa78a6", func := "loop.example/rotorciphers/laws.FnColumnPlaces", spec := "fnColumnPlaces", unfollowed := true, recurses := true, apart := false, narrowed := true }
def FnColumnPlacesUptoSaid : Prop := fnColumnPlacesUptoRow.holds Try.pinned (OpenSpec.upto fnColumnPlacesSpec)

/-- 'laws.FnExactTranspose', WHERE WHAT IT READS IS OF BULK AT MOST 1048576: true; the input reads as it did. -/
def fnExactTransposeUptoRow : OpenClaim := { program := "ytggjlagfjggmiaa", sum := "5176abd1d352d11ba29f94feee2aeec0ba1c23513fdf7d41a2317e5ce2aa78a6", func := "loop.example/rotorciphers/laws.FnExactTranspose", spec := "fnExactTranspose", unfollowed := true, recurses := true, apart := false, narrowed := true }
def FnExactTransposeUptoSaid : Prop := fnExactTransposeUptoRow.holds Try.pinned (OpenSpec.upto fnExactTransposeSpec)

/-- 'laws.FnExactUntranspose', WHERE WHAT IT READS IS OF BULK AT MOST 1048576: true; the input reads as it did. -/
def fnExactUntransposeUptoRow : OpenClaim := { program := "ytggjlagfjggmiaa", sum := "5176abd1d352d11ba29f94feee2aeec0ba1c23513fdf7d41a2317e5ce2aa78a6", func := "loop.example/rotorciphers/laws.FnExactUntranspose", spec := "fnExactUntranspose", unfollowed := true, recurses := true, apart := false, narrowed := true }
def FnExactUntransposeUptoSaid : Prop := fnExactUntransposeUptoRow.holds Try.pinned (OpenSpec.upto fnExactUntransposeSpec)

end Rows
end Go.Proofs.Ytggjlagfjggmiaa
