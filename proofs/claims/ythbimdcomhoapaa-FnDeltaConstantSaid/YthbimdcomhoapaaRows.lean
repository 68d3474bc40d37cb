/-
  No cell of these rows narrows 'for every input' (looked for: loops, veiled, ifaces, maps, wideKeys, modest, calm, conditions, laid).
  DERIVED. THE GIVEN ROWS OF THIS SEAT. 3 by the template 'for every input the law returns true; each argument reads behind the call as it read before'; 0 by the template 'total and deterministic' (their statements: YthbimdcomhoapaaTotals.lean).
  GIVEN WITH THE SEED: the statements are not yours to turn. If you find one false, say at which input.
  Laid BY PROGRAM, IN A SANDBOX (cutbox-rows.mjs): the forced cells as the released guide's own fill.sh prints them over the translation 4f60efeb49575368… (all of the seat's roots in one cut). By AI agents, Wed Nov 11 2026. No macro, syntax, notation, axiom, sorry.
-/
import Derived.Test.YthbimdcomhoapaaChecked
import GoSem.Claim
import GoSem.ClaimJoined
import GoSem.ClaimMapViews
import Derived.JoinedTies
import Derived.KernelRfl
namespace Go.Proofs.Ythbimdcomhoapaa
/- THE CELL 'sum', in the pinned program and in every row, IS THE sha256 OF THE DUMP (.gsa) THAT YthbimdcomhoapaaProg.lean LOADS. Nothing in Lean hashes anything: it is a label: what it is worth is what the hold of that sum in a sandbox is worth. -/
noncomputable def Try.pinned : Pinned := { name := "ythbimdcomhoapaa", sum := "4f60efeb495753683ae534edccefc5f315765f27bba78a774a5655e690df096d", checked := Try.checked }
namespace Rows
def none {H : Type} : Left H := { results := [], args := [] }

/-- 'laws.FnDeltaSum': WHATEVER THE INPUT: true; the input reads as it did. -/
def fnDeltaSumSpec : ChangeSpec := { name := "fnDeltaSum", fn := fun _ => fun
  | [d] => { results := [.lit (.bool true)], args := [d] }
  | _ => none }
def fnDeltaSumRow : OpenClaim := { program := "ythbimdcomhoapaa", sum := "4f60efeb495753683ae534edccefc5f315765f27bba78a774a5655e690df096d", func := "loop.example/rotorciphers/laws.FnDeltaSum", spec := "fnDeltaSum", apart := false }
def FnDeltaSumSaid : Prop := fnDeltaSumRow.holds Try.pinned (OpenSpec.ofChange fnDeltaSumSpec)

/-- ITS FALSE NEIGHBOUR: 'it returns false'. Refute it at one input. -/
def fnDeltaSumWrong : ChangeSpec := { name := "fnDeltaSum", fn := fun _ => fun
  | [d] => { results := [.lit (.bool false)], args := [d] }
  | _ => none }
def FnDeltaSumWrongFalsely : Prop := fnDeltaSumRow.holds Try.pinned (OpenSpec.ofChange fnDeltaSumWrong)

/-- 'laws.FnXorThree': WHATEVER THE INPUT: true; the input reads as it did. -/
def fnXorThreeSpec : ChangeSpec := { name := "fnXorThree", fn := fun _ => fun
  | [d] => { results := [.lit (.bool true)], args := [d] }
  | _ => none }
def fnXorThreeRow : OpenClaim := { program := "ythbimdcomhoapaa", sum := "4f60efeb495753683ae534edccefc5f315765f27bba78a774a5655e690df096d", func := "loop.example/rotorciphers/laws.FnXorThree", spec := "fnXorThree", apart := false }
def FnXorThreeSaid : Prop := fnXorThreeRow.holds Try.pinned (OpenSpec.ofChange fnXorThreeSpec)

/-- ITS FALSE NEIGHBOUR: 'it returns false'. Refute it at one input. -/
def fnXorThreeWrong : ChangeSpec := { name := "fnXorThree", fn := fun _ => fun
  | [d] => { results := [.lit (.bool false)], args := [d] }
  | _ => none }
def FnXorThreeWrongFalsely : Prop := fnXorThreeRow.holds Try.pinned (OpenSpec.ofChange fnXorThreeWrong)

/-- 'laws.FnDeltaConstant': WHATEVER THE INPUT: true; the input reads as it did. -/
def fnDeltaConstantSpec : ChangeSpec := { name := "fnDeltaConstant", fn := fun _ => fun
  | [d] => { results := [.lit (.bool true)], args := [d] }
  | _ => none }
def fnDeltaConstantRow : OpenClaim := { program := "ythbimdcomhoapaa", sum := "4f60efeb495753683ae534edccefc5f315765f27bba78a774a5655e690df096d", func := "loop.example/rotorciphers/laws.FnDeltaConstant", spec := "fnDeltaConstant", apart := false }
def FnDeltaConstantSaid : Prop := fnDeltaConstantRow.holds Try.pinned (OpenSpec.ofChange fnDeltaConstantSpec)

/-- ITS FALSE NEIGHBOUR: 'it returns false'. Refute it at one input. -/
def fnDeltaConstantWrong : ChangeSpec := { name := "fnDeltaConstant", fn := fun _ => fun
  | [d] => { results := [.lit (.bool false)], args := [d] }
  | _ => none }
def FnDeltaConstantWrongFalsely : Prop := fnDeltaConstantRow.holds Try.pinned (OpenSpec.ofChange fnDeltaConstantWrong)

/- THE SECOND FORM. 'bulk': how many values and letters a reading holds, each counted each time it is reached (what is shared counts as often as it is met; a slice's spare places count too). A statement '..UptoSaid' is the law's where the arguments, and the package variables that the reading takes, are together of bulk at most 1048576: NARROWER than '..Said'. Prove '..Said' where nothing that the law and all that it calls make is longer than what came in: it says more and counts as full. Else prove '..UptoSaid'. A law counts once. -/
mutual
def uptoBulk {H : Type} : DataW H → Nat
  | .lit (.string bytes) => bytes.length + 1
  | .lit _ => 1
  | .nil => 1
  | .ptr d => uptoBulk d + 1
  | .slice elems spare => uptoBulkAll elems + uptoBulkAll spare + 1
  | .agg parts => uptoBulkAll parts + 1
  | .iface _ d => uptoBulk d + 1
  | .map entries => uptoBulkEntries entries + 1
  | .held _ => 1
def uptoBulkAll {H : Type} : List (DataW H) → Nat
  | [] => 0
  | d :: r => uptoBulk d + uptoBulkAll r
def uptoBulkEntries {H : Type} : List (Lit × DataW H) → Nat
  | [] => 0
  | x :: r => uptoBulkEntry x + uptoBulkEntries r
def uptoBulkEntry {H : Type} : Lit × DataW H → Nat
  | (.string bytes, d) => bytes.length + uptoBulk d + 1
  | (_, d) => uptoBulk d + 1
 end
def uptoSmall : (H : Type) → List (DataW H) → Bool := fun _ ds => decide (uptoBulkAll ds ≤ 1048576)
def OpenSpec.upto (s : _root_.Go.ChangeSpec) : _root_.Go.OpenSpec := { _root_.Go.OpenSpec.ofChange s with cond := some uptoSmall }

/-- 'laws.FnDeltaSum', WHERE WHAT IT READS IS OF BULK AT MOST 1048576: true; the input reads as it did. -/
def fnDeltaSumUptoRow : OpenClaim := { program := "ythbimdcomhoapaa", sum := "4f60efeb495753683ae534edccefc5f315765f27bba78a774a5655e690df096d", func := "loop.example/rotorciphers/laws.FnDeltaSum", spec := "fnDeltaSum", apart := false, narrowed := true }
def FnDeltaSumUptoSaid : Prop := fnDeltaSumUptoRow.holds Try.pinned (OpenSpec.upto fnDeltaSumSpec)

/-- 'laws.FnXorThree', WHERE WHAT IT READS IS OF BULK AT MOST 1048576: true; the input reads as it did. -/
def fnXorThreeUptoRow : OpenClaim := { program := "ythbimdcomhoapaa", sum := "4f60efeb495753683ae534edccefc5f315765f27bba78a774a5655e690df096d", func := "loop.example/rotorciphers/laws.FnXorThree", spec := "fnXorThree", apart := false, narrowed := true }
def FnXorThreeUptoSaid : Prop := fnXorThreeUptoRow.holds Try.pinned (OpenSpec.upto fnXorThreeSpec)

/-- 'laws.FnDeltaConstant', WHERE WHAT IT READS IS OF BULK AT MOST 1048576: true; the input reads as it did. -/
def fnDeltaConstantUptoRow : OpenClaim := { program := "ythbimdcomhoapaa", sum := "4f60efeb495753683ae534edccefc5f315765f27bba78a774a5655e690df096d", func := "loop.example/rotorciphers/laws.FnDeltaConstant", spec := "fnDeltaConstant", apart := false, narrowed := true }
def FnDeltaConstantUptoSaid : Prop := fnDeltaConstantUptoRow.holds Try.pinned (OpenSpec.upto fnDeltaConstantSpec)

end Rows
end Go.Proofs.Ythbimdcomhoapaa
