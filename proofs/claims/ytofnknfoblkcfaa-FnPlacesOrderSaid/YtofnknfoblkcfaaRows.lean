/-
  No cell of these rows narrows 'for every input' (looked for: loops, veiled, ifaces, maps, wideKeys, modest, calm, conditions, laid).
  DERIVED. THE GIVEN ROWS OF THIS SEAT. 3 by the template 'for every input the law returns true; each argument reads behind the call as it read before'; 0 by the template 'total and deterministic' (their statements: YtofnknfoblkcfaaTotals.lean).
  GIVEN WITH THE SEED: the statements are not yours to turn. If you find one false, say at which input.
  Laid BY PROGRAM, IN A SANDBOX (cutbox-rows.mjs): the forced cells as the released guide's own fill.sh prints them over the translation 6865a5cb8a107883… (all of the seat's roots in one cut). By AI agents, Wed Nov 11 2026. No macro, syntax, notation, axiom, sorry.
-/
import Derived.Test.YtofnknfoblkcfaaChecked
import GoSem.Claim
import GoSem.ClaimJoined
import GoSem.ClaimMapViews
import Derived.JoinedTies
import Derived.KernelRfl
namespace Go.Proofs.Ytofnknfoblkcfaa
/- THE CELL 'sum', in the pinned program and in every row, IS THE sha256 OF THE DUMP (.gsa) THAT YtofnknfoblkcfaaProg.lean LOADS. Nothing in Lean hashes anything: it is a label: what it is worth is what the hold of that sum in a sandbox is worth. -/
noncomputable def Try.pinned : Pinned := { name := "ytofnknfoblkcfaa", sum := "6865a5cb8a1078832e2e09c0a844efc8b048519f044f92812dfc702ccb5c6aea", checked := Try.checked }
namespace Rows
def none {H : Type} : Left H := { results := [], args := [] }

/-- 'laws.FnExactPlacesOrder': WHATEVER THE INPUT: true; the input reads as it did. -/
def fnExactPlacesOrderSpec : ChangeSpec := { name := "fnExactPlacesOrder", fn := fun _ => fun
  | [d] => { results := [.lit (.bool true)], args := [d] }
  | _ => none }
def fnExactPlacesOrderRow : OpenClaim := { program := "ytofnknfoblkcfaa", sum := "6865a5cb8a1078832e2e09c0a844efc8b048519f044f92812dfc702ccb5c6aea", func := "loop.example/rotorciphers/laws.FnExactPlacesOrder", spec := "fnExactPlacesOrder", apart := false }
def FnExactPlacesOrderSaid : Prop := fnExactPlacesOrderRow.holds Try.pinned (OpenSpec.ofChange fnExactPlacesOrderSpec)

/-- ITS FALSE NEIGHBOUR: 'it returns false'. Refute it at one input. -/
def fnExactPlacesOrderWrong : ChangeSpec := { name := "fnExactPlacesOrder", fn := fun _ => fun
  | [d] => { results := [.lit (.bool false)], args := [d] }
  | _ => none }
def FnExactPlacesOrderWrongFalsely : Prop := fnExactPlacesOrderRow.holds Try.pinned (OpenSpec.ofChange fnExactPlacesOrderWrong)

/-- 'laws.FnPlacesOrderCycles': WHATEVER THE INPUT: true; the input reads as it did. -/
def fnPlacesOrderCyclesSpec : ChangeSpec := { name := "fnPlacesOrderCycles", fn := fun _ => fun
  | [d] => { results := [.lit (.bool true)], args := [d] }
  | _ => none }
def fnPlacesOrderCyclesRow : OpenClaim := { program := "ytofnknfoblkcfaa", sum := "6865a5cb8a1078832e2e09c0a844efc8b048519f044f92812dfc702ccb5c6aea", func := "loop.example/rotorciphers/laws.FnPlacesOrderCycles", spec := "fnPlacesOrderCycles", apart := false }
def FnPlacesOrderCyclesSaid : Prop := fnPlacesOrderCyclesRow.holds Try.pinned (OpenSpec.ofChange fnPlacesOrderCyclesSpec)

/-- ITS FALSE NEIGHBOUR: 'it returns false'. Refute it at one input. -/
def fnPlacesOrderCyclesWrong : ChangeSpec := { name := "fnPlacesOrderCycles", fn := fun _ => fun
  | [d] => { results := [.lit (.bool false)], args := [d] }
  | _ => none }
def FnPlacesOrderCyclesWrongFalsely : Prop := fnPlacesOrderCyclesRow.holds Try.pinned (OpenSpec.ofChange fnPlacesOrderCyclesWrong)

/-- 'laws.FnPlacesOrder': WHATEVER THE INPUT: true; the input reads as it did. -/
def fnPlacesOrderSpec : ChangeSpec := { name := "fnPlacesOrder", fn := fun _ => fun
  | [d] => { results := [.lit (.bool true)], args := [d] }
  | _ => none }
def fnPlacesOrderRow : OpenClaim := { program := "ytofnknfoblkcfaa", sum := "6865a5cb8a1078832e2e09c0a844efc8b048519f044f92812dfc702ccb5c6aea", func := "loop.example/rotorciphers/laws.FnPlacesOrder", spec := "fnPlacesOrder", apart := false }
def FnPlacesOrderSaid : Prop := fnPlacesOrderRow.holds Try.pinned (OpenSpec.ofChange fnPlacesOrderSpec)

/-- ITS FALSE NEIGHBOUR: 'it returns false'. Refute it at one input. -/
def fnPlacesOrderWrong : ChangeSpec := { name := "fnPlacesOrder", fn := fun _ => fun
  | [d] => { results := [.lit (.bool false)], args := [d] }
  | _ => none }
def FnPlacesOrderWrongFalsely : Prop := fnPlacesOrderRow.holds Try.pinned (OpenSpec.ofChange fnPlacesOrderWrong)

/- THE SECOND FORM. 'bulk': how many values and letters a reading holds, each counted each time it is reached (what is shared counts as often as it is met; a slice's spare places count too). A statement '..UptoSaid' is the law's where the arguments, and the package variables that the reading takes, are together of bulk at most 1048576: NARROWER than '..Said'. Prove '..Said' where nothing that the law and all that it calls make is longer than what came in: it says more and counts as full. Else prove '..UptoSaid'. A law counts once. -/
mutual
def uptoBulk {H : Type} : DataW H → Nat
  | .lit (.string bytes) => bytes.length + 1
  | .lit _ => 1
  | .nil => 1
  | .ptr d => uptoBulk d + 1
  | .slice elems spare => uptoBulkAll elems + uptoBulkAll spare + 1
  | .agg parts => uptoBulkAll parts + 1
  | .iface _ d => uptoBulk d + 1
  | .map entries => uptoBulkEntries entries + 1
  | .held _ => 1
def uptoBulkAll {H : Type} : List (DataW H) → Nat
  | [] => 0
  | d :: r => uptoBulk d + uptoBulkAll r
def uptoBulkEntries {H : Type} : List (Lit × DataW H) → Nat
  | [] => 0
  | x :: r => uptoBulkEntry x + uptoBulkEntries r
def uptoBulkEntry {H : Type} : Lit × DataW H → Nat
  | (.string bytes, d) => bytes.length + uptoBulk d + 1
  | (_, d) => uptoBulk d + 1
 end
def uptoSmall : (H : Type) → List (DataW H) → Bool := fun _ ds => decide (uptoBulkAll ds ≤ 1048576)
def OpenSpec.upto (s : _root_.Go.ChangeSpec) : _root_.Go.OpenSpec := { _root_.Go.OpenSpec.ofChange s with cond := some uptoSmall }

/-- 'laws.FnExactPlacesOrder', WHERE WHAT IT READS IS OF BULK AT MOST 1048576: true; the input reads as it did. -/
def fnExactPlacesOrderUptoRow : OpenClaim := { program := "ytofnknfoblkcfaa", sum := "6865a5cb8a1078832e2e09c0a844efc8b048519f044f92812dfc702ccb5c6aea", func := "loop.example/rotorciphers/laws.FnExactPlacesOrder", spec := "fnExactPlacesOrder", apart := false, narrowed := true }
def FnExactPlacesOrderUptoSaid : Prop := fnExactPlacesOrderUptoRow.holds Try.pinned (OpenSpec.upto fnExactPlacesOrderSpec)

/-- 'laws.FnPlacesOrderCycles', WHERE WHAT IT READS IS OF BULK AT MOST 1048576: true; the input reads as it did. -/
def fnPlacesOrderCyclesUptoRow : OpenClaim := { program := "ytofnknfoblkcfaa", sum := "6865a5cb8a1078832e2e09c0a844efc8b048519f044f92812dfc702ccb5c6aea", func := "loop.example/rotorciphers/laws.FnPlacesOrderCycles", spec := "fnPlacesOrderCycles", apart := false, narrowed := true }
def FnPlacesOrderCyclesUptoSaid : Prop := fnPlacesOrderCyclesUptoRow.holds Try.pinned (OpenSpec.upto fnPlacesOrderCyclesSpec)

/-- 'laws.FnPlacesOrder', WHERE WHAT IT READS IS OF BULK AT MOST 1048576: true; the input reads as it did. -/
def fnPlacesOrderUptoRow : OpenClaim := { program := "ytofnknfoblkcfaa", sum := "6865a5cb8a1078832e2e09c0a844efc8b048519f044f92812dfc702ccb5c6aea", func := "loop.example/rotorciphers/laws.FnPlacesOrder", spec := "fnPlacesOrder", apart := false, narrowed := true }
def FnPlacesOrderUptoSaid : Prop := fnPlacesOrderUptoRow.holds Try.pinned (OpenSpec.upto fnPlacesOrderSpec)

end Rows
end Go.Proofs.Ytofnknfoblkcfaa
