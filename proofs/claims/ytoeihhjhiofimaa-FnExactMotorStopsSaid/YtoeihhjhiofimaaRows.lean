/-
  No cell of these rows narrows 'for every input' (looked for: loops, veiled, ifaces, maps, wideKeys, modest, calm, conditions, laid).
  DERIVED. THE GIVEN ROWS OF THIS SEAT. 5 by the template 'for every input the law returns true; each argument reads behind the call as it read before'; 0 by the template 'total and deterministic' (their statements: YtoeihhjhiofimaaTotals.lean).
  GIVEN WITH THE SEED: the statements are not yours to turn. If you find one false, say at which input.
  Laid BY PROGRAM, IN A SANDBOX (cutbox-rows.mjs): the forced cells as the released guide's own fill.sh prints them over the translation ecf983aa58250cd2… (all of the seat's roots in one cut). By AI agents, Wed Nov 11 2026. No macro, syntax, notation, axiom, sorry.
-/
import Derived.Test.YtoeihhjhiofimaaChecked
import GoSem.Claim
import GoSem.ClaimJoined
import GoSem.ClaimMapViews
import Derived.JoinedTies
import Derived.KernelRfl
namespace Go.Proofs.Ytoeihhjhiofimaa
/- THE CELL 'sum', in the pinned program and in every row, IS THE sha256 OF THE DUMP (.gsa) THAT YtoeihhjhiofimaaProg.lean LOADS. Nothing in Lean hashes anything: it is a label: what it is worth is what the hold of that sum in a sandbox is worth. -/
noncomputable def Try.pinned : Pinned := { name := "ytoeihhjhiofimaa", sum := "ecf983aa58250cd253620538fc00e5fe8703e832f0b8c0af4b8a8643db27648d", checked := Try.checked }
namespace Rows
def none {H : Type} : Left H := { results := [], args := [] }

/-- 'laws.FnExactChiTape': WHATEVER THE INPUT: true; the input reads as it did. -/
def fnExactChiTapeSpec : ChangeSpec := { name := "fnExactChiTape", fn := fun _ => fun
  | [d1, d2] => { results := [.lit (.bool true)], args := [d1, d2] }
  | _ => none }
def fnExactChiTapeRow : OpenClaim := { program := "ytoeihhjhiofimaa", sum := "ecf983aa58250cd253620538fc00e5fe8703e832f0b8c0af4b8a8643db27648d", func := "loop.example/rotorciphers/laws.FnExactChiTape", spec := "fnExactChiTape", apart := false }
def FnExactChiTapeSaid : Prop := fnExactChiTapeRow.holds Try.pinned (OpenSpec.ofChange fnExactChiTapeSpec)

/-- ITS FALSE NEIGHBOUR: 'it returns false'. Refute it at one input. -/
def fnExactChiTapeWrong : ChangeSpec := { name := "fnExactChiTape", fn := fun _ => fun
  | [d1, d2] => { results := [.lit (.bool false)], args := [d1, d2] }
  | _ => none }
def FnExactChiTapeWrongFalsely : Prop := fnExactChiTapeRow.holds Try.pinned (OpenSpec.ofChange fnExactChiTapeWrong)

/-- 'laws.FnExactPsiTape': WHATEVER THE INPUT: true; the input reads as it did. -/
def fnExactPsiTapeSpec : ChangeSpec := { name := "fnExactPsiTape", fn := fun _ => fun
  | [d1, d2] => { results := [.lit (.bool true)], args := [d1, d2] }
  | _ => none }
def fnExactPsiTapeRow : OpenClaim := { program := "ytoeihhjhiofimaa", sum := "ecf983aa58250cd253620538fc00e5fe8703e832f0b8c0af4b8a8643db27648d", func := "loop.example/rotorciphers/laws.FnExactPsiTape", spec := "fnExactPsiTape", apart := false }
def FnExactPsiTapeSaid : Prop := fnExactPsiTapeRow.holds Try.pinned (OpenSpec.ofChange fnExactPsiTapeSpec)

/-- ITS FALSE NEIGHBOUR: 'it returns false'. Refute it at one input. -/
def fnExactPsiTapeWrong : ChangeSpec := { name := "fnExactPsiTape", fn := fun _ => fun
  | [d1, d2] => { results := [.lit (.bool false)], args := [d1, d2] }
  | _ => none }
def FnExactPsiTapeWrongFalsely : Prop := fnExactPsiTapeRow.holds Try.pinned (OpenSpec.ofChange fnExactPsiTapeWrong)

/-- 'laws.FnExactMotorStops': WHATEVER THE INPUT: true; the input reads as it did. -/
def fnExactMotorStopsSpec : ChangeSpec := { name := "fnExactMotorStops", fn := fun _ => fun
  | [d1, d2] => { results := [.lit (.bool true)], args := [d1, d2] }
  | _ => none }
def fnExactMotorStopsRow : OpenClaim := { program := "ytoeihhjhiofimaa", sum := "ecf983aa58250cd253620538fc00e5fe8703e832f0b8c0af4b8a8643db27648d", func := "loop.example/rotorciphers/laws.FnExactMotorStops", spec := "fnExactMotorStops", apart := false }
def FnExactMotorStopsSaid : Prop := fnExactMotorStopsRow.holds Try.pinned (OpenSpec.ofChange fnExactMotorStopsSpec)

/-- ITS FALSE NEIGHBOUR: 'it returns false'. Refute it at one input. -/
def fnExactMotorStopsWrong : ChangeSpec := { name := "fnExactMotorStops", fn := fun _ => fun
  | [d1, d2] => { results := [.lit (.bool false)], args := [d1, d2] }
  | _ => none }
def FnExactMotorStopsWrongFalsely : Prop := fnExactMotorStopsRow.holds Try.pinned (OpenSpec.ofChange fnExactMotorStopsWrong)

/-- 'laws.FnExactTeleKey': WHATEVER THE INPUT: true; the input reads as it did. -/
def fnExactTeleKeySpec : ChangeSpec := { name := "fnExactTeleKey", fn := fun _ => fun
  | [d1, d2] => { results := [.lit (.bool true)], args := [d1, d2] }
  | _ => none }
def fnExactTeleKeyRow : OpenClaim := { program := "ytoeihhjhiofimaa", sum := "ecf983aa58250cd253620538fc00e5fe8703e832f0b8c0af4b8a8643db27648d", func := "loop.example/rotorciphers/laws.FnExactTeleKey", spec := "fnExactTeleKey", apart := false }
def FnExactTeleKeySaid : Prop := fnExactTeleKeyRow.holds Try.pinned (OpenSpec.ofChange fnExactTeleKeySpec)

/-- ITS FALSE NEIGHBOUR: 'it returns false'. Refute it at one input. -/
def fnExactTeleKeyWrong : ChangeSpec := { name := "fnExactTeleKey", fn := fun _ => fun
  | [d1, d2] => { results := [.lit (.bool false)], args := [d1, d2] }
  | _ => none }
def FnExactTeleKeyWrongFalsely : Prop := fnExactTeleKeyRow.holds Try.pinned (OpenSpec.ofChange fnExactTeleKeyWrong)

/-- 'laws.FnExactTeleEncipher': WHATEVER THE INPUT: true; the input reads as it did. -/
def fnExactTeleEncipherSpec : ChangeSpec := { name := "fnExactTeleEncipher", fn := fun _ => fun
  | [d1, d2] => { results := [.lit (.bool true)], args := [d1, d2] }
  | _ => none }
def fnExactTeleEncipherRow : OpenClaim := { program := "ytoeihhjhiofimaa", sum := "ecf983aa58250cd253620538fc00e5fe8703e832f0b8c0af4b8a8643db27648d", func := "loop.example/rotorciphers/laws.FnExactTeleEncipher", spec := "fnExactTeleEncipher", apart := false }
def FnExactTeleEncipherSaid : Prop := fnExactTeleEncipherRow.holds Try.pinned (OpenSpec.ofChange fnExactTeleEncipherSpec)

/-- ITS FALSE NEIGHBOUR: 'it returns false'. Refute it at one input. -/
def fnExactTeleEncipherWrong : ChangeSpec := { name := "fnExactTeleEncipher", fn := fun _ => fun
  | [d1, d2] => { results := [.lit (.bool false)], args := [d1, d2] }
  | _ => none }
def FnExactTeleEncipherWrongFalsely : Prop := fnExactTeleEncipherRow.holds Try.pinned (OpenSpec.ofChange fnExactTeleEncipherWrong)

/- THE SECOND FORM. 'bulk': how many values and letters a reading holds, each counted each time it is reached (what is shared counts as often as it is met; a slice's spare places count too). A statement '..UptoSaid' is the law's where the arguments, and the package variables that the reading takes, are together of bulk at most 1048576: NARROWER than '..Said'. Prove '..Said' where nothing that the law and all that it calls make is longer than what came in: it says more and counts as full. Else prove '..UptoSaid'. A law counts once. -/
mutual
def uptoBulk {H : Type} : DataW H → Nat
  | .lit (.string bytes) => bytes.length + 1
  | .lit _ => 1
  | .nil => 1
  | .ptr d => uptoBulk d + 1
  | .slice elems spare => uptoBulkAll elems + uptoBulkAll spare + 1
  | .agg parts => uptoBulkAll parts + 1
  | .iface _ d => uptoBulk d + 1
  | .map entries => uptoBulkEntries entries + 1
  | .held _ => 1
def uptoBulkAll {H : Type} : List (DataW H) → Nat
  | [] => 0
  | d :: r => uptoBulk d + uptoBulkAll r
def uptoBulkEntries {H : Type} : List (Lit × DataW H) → Nat
  | [] => 0
  | x :: r => uptoBulkEntry x + uptoBulkEntries r
def uptoBulkEntry {H : Type} : Lit × DataW H → Nat
  | (.string bytes, d) => bytes.length + uptoBulk d + 1
  | (_, d) => uptoBulk d + 1
 end
def uptoSmall : (H : Type) → List (DataW H) → Bool := fun _ ds => decide (uptoBulkAll ds ≤ 1048576)
def OpenSpec.upto (s : _root_.Go.ChangeSpec) : _root_.Go.OpenSpec := { _root_.Go.OpenSpec.ofChange s with cond := some uptoSmall }

/-- 'laws.FnExactChiTape', WHERE WHAT IT READS IS OF BULK AT MOST 1048576: true; the input reads as it did. -/
def fnExactChiTapeUptoRow : OpenClaim := { program := "ytoeihhjhiofimaa", sum := "ecf983aa58250cd253620538fc00e5fe8703e832f0b8c0af4b8a8643db27648d", func := "loop.example/rotorciphers/laws.FnExactChiTape", spec := "fnExactChiTape", apart := false, narrowed := true }
def FnExactChiTapeUptoSaid : Prop := fnExactChiTapeUptoRow.holds Try.pinned (OpenSpec.upto fnExactChiTapeSpec)

/-- 'laws.FnExactPsiTape', WHERE WHAT IT READS IS OF BULK AT MOST 1048576: true; the input reads as it did. -/
def fnExactPsiTapeUptoRow : OpenClaim := { program := "ytoeihhjhiofimaa", sum := "ecf983aa58250cd253620538fc00e5fe8703e832f0b8c0af4b8a8643db27648d", func := "loop.example/rotorciphers/laws.FnExactPsiTape", spec := "fnExactPsiTape", apart := false, narrowed := true }
def FnExactPsiTapeUptoSaid : Prop := fnExactPsiTapeUptoRow.holds Try.pinned (OpenSpec.upto fnExactPsiTapeSpec)

/-- 'laws.FnExactMotorStops', WHERE WHAT IT READS IS OF BULK AT MOST 1048576: true; the input reads as it did. -/
def fnExactMotorStopsUptoRow : OpenClaim := { program := "ytoeihhjhiofimaa", sum := "ecf983aa58250cd253620538fc00e5fe8703e832f0b8c0af4b8a8643db27648d", func := "loop.example/rotorciphers/laws.FnExactMotorStops", spec := "fnExactMotorStops", apart := false, narrowed := true }
def FnExactMotorStopsUptoSaid : Prop := fnExactMotorStopsUptoRow.holds Try.pinned (OpenSpec.upto fnExactMotorStopsSpec)

/-- 'laws.FnExactTeleKey', WHERE WHAT IT READS IS OF BULK AT MOST 1048576: true; the input reads as it did. -/
def fnExactTeleKeyUptoRow : OpenClaim := { program := "ytoeihhjhiofimaa", sum := "ecf983aa58250cd253620538fc00e5fe8703e832f0b8c0af4b8a8643db27648d", func := "loop.example/rotorciphers/laws.FnExactTeleKey", spec := "fnExactTeleKey", apart := false, narrowed := true }
def FnExactTeleKeyUptoSaid : Prop := fnExactTeleKeyUptoRow.holds Try.pinned (OpenSpec.upto fnExactTeleKeySpec)

/-- 'laws.FnExactTeleEncipher', WHERE WHAT IT READS IS OF BULK AT MOST 1048576: true; the input reads as it did. -/
def fnExactTeleEncipherUptoRow : OpenClaim := { program := "ytoeihhjhiofimaa", sum := "ecf983aa58250cd253620538fc00e5fe8703e832f0b8c0af4b8a8643db27648d", func := "loop.example/rotorciphers/laws.FnExactTeleEncipher", spec := "fnExactTeleEncipher", apart := false, narrowed := true }
def FnExactTeleEncipherUptoSaid : Prop := fnExactTeleEncipherUptoRow.holds Try.pinned (OpenSpec.upto fnExactTeleEncipherSpec)

end Rows
end Go.Proofs.Ytoeihhjhiofimaa
