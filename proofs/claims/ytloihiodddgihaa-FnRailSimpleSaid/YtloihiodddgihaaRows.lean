/-
  No cell of these rows narrows 'for every input' (looked for: loops, veiled, ifaces, maps, wideKeys, modest, calm, conditions, laid).
  DERIVED. THE GIVEN ROWS OF THIS SEAT. 4 by the template 'for every input the law returns true; each argument reads behind the call as it read before'; 0 by the template 'total and deterministic' (their statements: YtloihiodddgihaaTotals.lean).
  GIVEN WITH THE SEED: the statements are not yours to turn. If you find one false, say at which input.
  Laid BY PROGRAM, IN A SANDBOX (cutbox-rows.mjs): the forced cells as the released guide's own fill.sh prints them over the translation 551a3d4c8e4243d2… (all of the seat's roots in one cut). By AI agents, Wed Nov 11 2026. No macro, syntax, notation, axiom, sorry.
-/
import Derived.Test.YtloihiodddgihaaChecked
import GoSem.Claim
import GoSem.ClaimJoined
import GoSem.ClaimMapViews
import Derived.JoinedTies
import Derived.KernelRfl
namespace Go.Proofs.Ytloihiodddgihaa
/- THE CELL 'sum', in the pinned program and in every row, IS THE sha256 OF THE DUMP (.gsa) THAT YtloihiodddgihaaProg.lean LOADS. Nothing in Lean hashes anything: it is a label: what it is worth is what the hold of that sum in a sandbox is worth. -/
noncomputable def Try.pinned : Pinned := { name := "ytloihiodddgihaa", sum := "551a3d4c8e4243d2f94827b33cee19a6092604d0c43b2f002c1141aee879948a", checked := Try.checked }
namespace Rows
def none {H : Type} : Left H := { results := [], args := [] }

/-- 'laws.FnExactRailPlaces': WHATEVER THE INPUT: true; the input reads as it did. -/
def fnExactRailPlacesSpec : ChangeSpec := { name := "fnExactRailPlaces", fn := fun _ => fun
  | [d1, d2] => { results := [.lit (.bool true)], args := [d1, d2] }
  | _ => none }
def fnExactRailPlacesRow : OpenClaim := { program := "ytloihiodddgihaa", sum := "551a3d4c8e4243d2f94827b33cee19a6092604d0c43b2f002c1141aee879948a", func := "loop.example/rotorciphers/laws.FnExactRailPlaces", spec := "fnExactRailPlaces", apart := false }
def FnExactRailPlacesSaid : Prop := fnExactRailPlacesRow.holds Try.pinned (OpenSpec.ofChange fnExactRailPlacesSpec)

/-- ITS FALSE NEIGHBOUR: 'it returns false'. Refute it at one input. -/
def fnExactRailPlacesWrong : ChangeSpec := { name := "fnExactRailPlaces", fn := fun _ => fun
  | [d1, d2] => { results := [.lit (.bool false)], args := [d1, d2] }
  | _ => none }
def FnExactRailPlacesWrongFalsely : Prop := fnExactRailPlacesRow.holds Try.pinned (OpenSpec.ofChange fnExactRailPlacesWrong)

/-- 'laws.FnRailSimple': WHATEVER THE INPUT: true; the input reads as it did. -/
def fnRailSimpleSpec : ChangeSpec := { name := "fnRailSimple", fn := fun _ => fun
  | [d] => { results := [.lit (.bool true)], args := [d] }
  | _ => none }
def fnRailSimpleRow : OpenClaim := { program := "ytloihiodddgihaa", sum := "551a3d4c8e4243d2f94827b33cee19a6092604d0c43b2f002c1141aee879948a", func := "loop.example/rotorciphers/laws.FnRailSimple", spec := "fnRailSimple", apart := false }
def FnRailSimpleSaid : Prop := fnRailSimpleRow.holds Try.pinned (OpenSpec.ofChange fnRailSimpleSpec)

/-- ITS FALSE NEIGHBOUR: 'it returns false'. Refute it at one input. -/
def fnRailSimpleWrong : ChangeSpec := { name := "fnRailSimple", fn := fun _ => fun
  | [d] => { results := [.lit (.bool false)], args := [d] }
  | _ => none }
def FnRailSimpleWrongFalsely : Prop := fnRailSimpleRow.holds Try.pinned (OpenSpec.ofChange fnRailSimpleWrong)

/-- 'laws.FnRailPlaces': WHATEVER THE INPUT: true; the input reads as it did. -/
def fnRailPlacesSpec : ChangeSpec := { name := "fnRailPlaces", fn := fun _ => fun
  | [d] => { results := [.lit (.bool true)], args := [d] }
  | _ => none }
def fnRailPlacesRow : OpenClaim := { program := "ytloihiodddgihaa", sum := "551a3d4c8e4243d2f94827b33cee19a6092604d0c43b2f002c1141aee879948a", func := "loop.example/rotorciphers/laws.FnRailPlaces", spec := "fnRailPlaces", apart := false }
def FnRailPlacesSaid : Prop := fnRailPlacesRow.holds Try.pinned (OpenSpec.ofChange fnRailPlacesSpec)

/-- ITS FALSE NEIGHBOUR: 'it returns false'. Refute it at one input. -/
def fnRailPlacesWrong : ChangeSpec := { name := "fnRailPlaces", fn := fun _ => fun
  | [d] => { results := [.lit (.bool false)], args := [d] }
  | _ => none }
def FnRailPlacesWrongFalsely : Prop := fnRailPlacesRow.holds Try.pinned (OpenSpec.ofChange fnRailPlacesWrong)

/-- 'laws.FnJoinThree': WHATEVER THE INPUT: true; the input reads as it did. -/
def fnJoinThreeSpec : ChangeSpec := { name := "fnJoinThree", fn := fun _ => fun
  | [d1, d2] => { results := [.lit (.bool true)], args := [d1, d2] }
  | _ => none }
def fnJoinThreeRow : OpenClaim := { program := "ytloihiodddgihaa", sum := "551a3d4c8e4243d2f94827b33cee19a6092604d0c43b2f002c1141aee879948a", func := "loop.example/rotorciphers/laws.FnJoinThree", spec := "fnJoinThree", apart := false }
def FnJoinThreeSaid : Prop := fnJoinThreeRow.holds Try.pinned (OpenSpec.ofChange fnJoinThreeSpec)

/-- ITS FALSE NEIGHBOUR: 'it returns false'. Refute it at one input. -/
def fnJoinThreeWrong : ChangeSpec := { name := "fnJoinThree", fn := fun _ => fun
  | [d1, d2] => { results := [.lit (.bool false)], args := [d1, d2] }
  | _ => none }
def FnJoinThreeWrongFalsely : Prop := fnJoinThreeRow.holds Try.pinned (OpenSpec.ofChange fnJoinThreeWrong)

/- THE SECOND FORM. 'bulk': how many values and letters a reading holds, each counted each time it is reached (what is shared counts as often as it is met; a slice's spare places count too). A statement '..UptoSaid' is the law's where the arguments, and the package variables that the reading takes, are together of bulk at most 1048576: NARROWER than '..Said'. Prove '..Said' where nothing that the law and all that it calls make is longer than what came in: it says more and counts as full. Else prove '..UptoSaid'. A law counts once. -/
mutual
def uptoBulk {H : Type} : DataW H → Nat
  | .lit (.string bytes) => bytes.length + 1
  | .lit _ => 1
  | .nil => 1
  | .ptr d => uptoBulk d + 1
  | .slice elems spare => uptoBulkAll elems + uptoBulkAll spare + 1
  | .agg parts => uptoBulkAll parts + 1
  | .iface _ d => uptoBulk d + 1
  | .map entries => uptoBulkEntries entries + 1
  | .held _ => 1
def uptoBulkAll {H : Type} : List (DataW H) → Nat
  | [] => 0
  | d :: r => uptoBulk d + uptoBulkAll r
def uptoBulkEntries {H : Type} : List (Lit × DataW H) → Nat
  | [] => 0
  | x :: r => uptoBulkEntry x + uptoBulkEntries r
def uptoBulkEntry {H : Type} : Lit × DataW H → Nat
  | (.string bytes, d) => bytes.length + uptoBulk d + 1
  | (_, d) => uptoBulk d + 1
 end
def uptoSmall : (H : Type) → List (DataW H) → Bool := fun _ ds => decide (uptoBulkAll ds ≤ 1048576)
def OpenSpec.upto (s : _root_.Go.ChangeSpec) : _root_.Go.OpenSpec := { _root_.Go.OpenSpec.ofChange s with cond := some uptoSmall }

/-- 'laws.FnExactRailPlaces', WHERE WHAT IT READS IS OF BULK AT MOST 1048576: true; the input reads as it did. -/
def fnExactRailPlacesUptoRow : OpenClaim := { program := "ytloihiodddgihaa", sum := "551a3d4c8e4243d2f94827b33cee19a6092604d0c43b2f002c1141aee879948a", func := "loop.example/rotorciphers/laws.FnExactRailPlaces", spec := "fnExactRailPlaces", apart := false, narrowed := true }
def FnExactRailPlacesUptoSaid : Prop := fnExactRailPlacesUptoRow.holds Try.pinned (OpenSpec.upto fnExactRailPlacesSpec)

/-- 'laws.FnRailSimple', WHERE WHAT IT READS IS OF BULK AT MOST 1048576: true; the input reads as it did. -/
def fnRailSimpleUptoRow : OpenClaim := { program := "ytloihiodddgihaa", sum := "551a3d4c8e4243d2f94827b33cee19a6092604d0c43b2f002c1141aee879948a", func := "loop.example/rotorciphers/laws.FnRailSimple", spec := "fnRailSimple", apart := false, narrowed := true }
def FnRailSimpleUptoSaid : Prop := fnRailSimpleUptoRow.holds Try.pinned (OpenSpec.upto fnRailSimpleSpec)

/-- 'laws.FnRailPlaces', WHERE WHAT IT READS IS OF BULK AT MOST 1048576: true; the input reads as it did. -/
def fnRailPlacesUptoRow : OpenClaim := { program := "ytloihiodddgihaa", sum := "551a3d4c8e4243d2f94827b33cee19a6092604d0c43b2f002c1141aee879948a", func := "loop.example/rotorciphers/laws.FnRailPlaces", spec := "fnRailPlaces", apart := false, narrowed := true }
def FnRailPlacesUptoSaid : Prop := fnRailPlacesUptoRow.holds Try.pinned (OpenSpec.upto fnRailPlacesSpec)

/-- 'laws.FnJoinThree', WHERE WHAT IT READS IS OF BULK AT MOST 1048576: true; the input reads as it did. -/
def fnJoinThreeUptoRow : OpenClaim := { program := "ytloihiodddgihaa", sum := "551a3d4c8e4243d2f94827b33cee19a6092604d0c43b2f002c1141aee879948a", func := "loop.example/rotorciphers/laws.FnJoinThree", spec := "fnJoinThree", apart := false, narrowed := true }
def FnJoinThreeUptoSaid : Prop := fnJoinThreeUptoRow.holds Try.pinned (OpenSpec.upto fnJoinThreeSpec)

end Rows
end Go.Proofs.Ytloihiodddgihaa
