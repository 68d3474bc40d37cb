/-
  No cell of these rows narrows 'for every input' (looked for: loops, veiled, ifaces, maps, wideKeys, modest, calm, conditions, laid).
  DERIVED. THE GIVEN ROWS OF THIS SEAT. 4 by the template 'for every input the law returns true; each argument reads behind the call as it read before'; 0 by the template 'total and deterministic' (their statements: YtljnakjphbnbjaaTotals.lean).
  GIVEN WITH THE SEED: the statements are not yours to turn. If you find one false, say at which input.
  Laid BY PROGRAM, IN A SANDBOX (cutbox-rows.mjs): the forced cells as the released guide's own fill.sh prints them over the translation dc3925b36369ed18… (all of the seat's roots in one cut). By AI agents, Wed Nov 11 2026. No macro, syntax, notation, axiom, sorry.
-/
import Derived.Test.YtljnakjphbnbjaaChecked
import GoSem.Claim
import GoSem.ClaimJoined
import GoSem.ClaimMapViews
import Derived.JoinedTies
import Derived.KernelRfl
namespace Go.Proofs.Ytljnakjphbnbjaa
/- THE CELL 'sum', in the pinned program and in every row, IS THE sha256 OF THE DUMP (.gsa) THAT YtljnakjphbnbjaaProg.lean LOADS. Nothing in Lean hashes anything: it is a label: what it is worth is what the hold of that sum in a sandbox is worth. -/
noncomputable def Try.pinned : Pinned := { name := "ytljnakjphbnbjaa", sum := "dc3925b36369ed181b66ed1618730c6b3e86d1b2a53e2a48c5c0a57ca942c424", checked := Try.checked }
namespace Rows
def none {H : Type} : Left H := { results := [], args := [] }

/-- 'laws.FnUntransposeForth': WHATEVER THE INPUT: true; the input reads as it did. -/
def fnUntransposeForthSpec : ChangeSpec := { name := "fnUntransposeForth", fn := fun _ => fun
  | [d] => { results := [.lit (.bool true)], args := [d] }
  | _ => none }
def fnUntransposeForthRow : OpenClaim := { program := "ytljnakjphbnbjaa", sum := "dc3925b36369ed181b66ed1618730c6b3e86d1b2a53e2a48c5c0a57ca942c424", func := "loop.example/rotorciphers/laws.FnUntransposeForth", spec := "fnUntransposeForth", unfollowed := true, recurses := true, apart := false }
def FnUntransposeForthSaid : Prop := fnUntransposeForthRow.holds Try.pinned (OpenSpec.ofChange fnUntransposeForthSpec)

/-- ITS FALSE NEIGHBOUR: 'it returns false'. Refute it at one input. -/
def fnUntransposeForthWrong : ChangeSpec := { name := "fnUntransposeForth", fn := fun _ => fun
  | [d] => { results := [.lit (.bool false)], args := [d] }
  | _ => none }
def FnUntransposeForthWrongFalsely : Prop := fnUntransposeForthRow.holds Try.pinned (OpenSpec.ofChange fnUntransposeForthWrong)

/-- 'laws.FnTransposePlaces': WHATEVER THE INPUT: true; the input reads as it did. -/
def fnTransposePlacesSpec : ChangeSpec := { name := "fnTransposePlaces", fn := fun _ => fun
  | [d] => { results := [.lit (.bool true)], args := [d] }
  | _ => none }
def fnTransposePlacesRow : OpenClaim := { program := "ytljnakjphbnbjaa", sum := "dc3925b36369ed181b66ed1618730c6b3e86d1b2a53e2a48c5c0a57ca942c424", func := "loop.example/rotorciphers/laws.FnTransposePlaces", spec := "fnTransposePlaces", unfollowed := true, recurses := true, apart := false }
def FnTransposePlacesSaid : Prop := fnTransposePlacesRow.holds Try.pinned (OpenSpec.ofChange fnTransposePlacesSpec)

/-- ITS FALSE NEIGHBOUR: 'it returns false'. Refute it at one input. -/
def fnTransposePlacesWrong : ChangeSpec := { name := "fnTransposePlaces", fn := fun _ => fun
  | [d] => { results := [.lit (.bool false)], args := [d] }
  | _ => none }
def FnTransposePlacesWrongFalsely : Prop := fnTransposePlacesRow.holds Try.pinned (OpenSpec.ofChange fnTransposePlacesWrong)

/-- 'laws.FnTransposeColumns': WHATEVER THE INPUT: true; the input reads as it did. -/
def fnTransposeColumnsSpec : ChangeSpec := { name := "fnTransposeColumns", fn := fun _ => fun
  | [d] => { results := [.lit (.bool true)], args := [d] }
  | _ => none }
def fnTransposeColumnsRow : OpenClaim := { program := "ytljnakjphbnbjaa", sum := "dc3925b36369ed181b66ed1618730c6b3e86d1b2a53e2a48c5c0a57ca942c424", func := "loop.example/rotorciphers/laws.FnTransposeColumns", spec := "fnTransposeColumns", unfollowed := true, recurses := true, apart := false }
def FnTransposeColumnsSaid : Prop := fnTransposeColumnsRow.holds Try.pinned (OpenSpec.ofChange fnTransposeColumnsSpec)

/-- ITS FALSE NEIGHBOUR: 'it returns false'. Refute it at one input. -/
def fnTransposeColumnsWrong : ChangeSpec := { name := "fnTransposeColumns", fn := fun _ => fun
  | [d] => { results := [.lit (.bool false)], args := [d] }
  | _ => none }
def FnTransposeColumnsWrongFalsely : Prop := fnTransposeColumnsRow.holds Try.pinned (OpenSpec.ofChange fnTransposeColumnsWrong)

/-- 'laws.FnTransposeBack': WHATEVER THE INPUT: true; the input reads as it did. -/
def fnTransposeBackSpec : ChangeSpec := { name := "fnTransposeBack", fn := fun _ => fun
  | [d] => { results := [.lit (.bool true)], args := [d] }
  | _ => none }
def fnTransposeBackRow : OpenClaim := { program := "ytljnakjphbnbjaa", sum := "dc3925b36369ed181b66ed1618730c6b3e86d1b2a53e2a48c5c0a57ca942c424", func := "loop.example/rotorciphers/laws.FnTransposeBack", spec := "fnTransposeBack", unfollowed := true, recurses := true, apart := false }
def FnTransposeBackSaid : Prop := fnTransposeBackRow.holds Try.pinned (OpenSpec.ofChange fnTransposeBackSpec)

/-- ITS FALSE NEIGHBOUR: 'it returns false'. Refute it at one input. -/
def fnTransposeBackWrong : ChangeSpec := { name := "fnTransposeBack", fn := fun _ => fun
  | [d] => { results := [.lit (.bool false)], args := [d] }
  | _ => none }
def FnTransposeBackWrongFalsely : Prop := fnTransposeBackRow.holds Try.pinned (OpenSpec.ofChange fnTransposeBackWrong)

/- THE SECOND FORM. 'bulk': how many values and letters a reading holds, each counted each time it is reached (what is shared counts as often as it is met; a slice's spare places count too). A statement '..UptoSaid' is the law's where the arguments, and the package variables that the reading takes, are together of bulk at most 1048576: NARROWER than '..Said'. Prove '..Said' where nothing that the law and all that it calls make is longer than what came in: it says more and counts as full. Else prove '..UptoSaid'. A law counts once. -/
mutual
def uptoBulk {H : Type} : DataW H → Nat
  | .lit (.string bytes) => bytes.length + 1
  | .lit _ => 1
  | .nil => 1
  | .ptr d => uptoBulk d + 1
  | .slice elems spare => uptoBulkAll elems + uptoBulkAll spare + 1
  | .agg parts => uptoBulkAll parts + 1
  | .iface _ d => uptoBulk d + 1
  | .map entries => uptoBulkEntries entries + 1
  | .held _ => 1
def uptoBulkAll {H : Type} : List (DataW H) → Nat
  | [] => 0
  | d :: r => uptoBulk d + uptoBulkAll r
def uptoBulkEntries {H : Type} : List (Lit × DataW H) → Nat
  | [] => 0
  | x :: r => uptoBulkEntry x + uptoBulkEntries r
def uptoBulkEntry {H : Type} : Lit × DataW H → Nat
  | (.string bytes, d) => bytes.length + uptoBulk d + 1
  | (_, d) => uptoBulk d + 1
 end
def uptoSmall : (H : Type) → List (DataW H) → Bool := fun _ ds => decide (uptoBulkAll ds ≤ 1048576)
def OpenSpec.upto (s : _root_.Go.ChangeSpec) : _root_.Go.OpenSpec := { _root_.Go.OpenSpec.ofChange s with cond := some uptoSmall }

/-- 'laws.FnUntransposeForth', WHERE WHAT IT READS IS OF BULK AT MOST 1048576: true; the input reads as it did. -/
def fnUntransposeForthUptoRow : OpenClaim := { program := "ytljnakjphbnbjaa", sum := "dc3925b36369ed181b66ed1618730c6b3e86d1b2a53e2a48c5c0a57ca942c424", func := "loop.example/rotorciphers/laws.FnUntransposeForth", spec := "fnUntransposeForth", unfollowed := true, recurses := true, apart := false, narrowed := true }
def FnUntransposeForthUptoSaid : Prop := fnUntransposeForthUptoRow.holds Try.pinned (OpenSpec.upto fnUntransposeForthSpec)

/-- 'laws.FnTransposePlaces', WHERE WHAT IT READS IS OF BULK AT MOST 1048576: true; the input reads as it did. -/
def fnTransposePlacesUptoRow : OpenClaim := { program := "ytljnakjphbnbjaa", sum := "dc3925b36369ed181b66ed1618730c6b3e86d1b2a53e2a48c5c0a57ca942c424", func := "loop.example/rotorciphers/laws.FnTransposePlaces", spec := "fnTransposePlaces", unfollowed := true, recurses := true, apart := false, narrowed := true }
def FnTransposePlacesUptoSaid : Prop := fnTransposePlacesUptoRow.holds Try.pinned (OpenSpec.upto fnTransposePlacesSpec)

/-- 'laws.FnTransposeColumns', WHERE WHAT IT READS IS OF BULK AT MOST 1048576: true; the input reads as it did. -/
def fnTransposeColumnsUptoRow : OpenClaim := { program := "ytljnakjphbnbjaa", sum := "dc3925b36369ed181b66ed1618730c6b3e86d1b2a53e2a48c5c0a57ca942c424", func := "loop.example/rotorciphers/laws.FnTransposeColumns", spec := "fnTransposeColumns", unfollowed := true, recurses := true, apart := false, narrowed := true }
def FnTransposeColumnsUptoSaid : Prop := fnTransposeColumnsUptoRow.holds Try.pinned (OpenSpec.upto fnTransposeColumnsSpec)

/-- 'laws.FnTransposeBack', WHERE WHAT IT READS IS OF BULK AT MOST 1048576: true; the input reads as it did. -/
def fnTransposeBackUptoRow : OpenClaim := { program := "ytljnakjphbnbjaa", sum := "dc3925b36369ed181b66ed1618730c6b3e86d1b2a53e2a48c5c0a57ca942c424", func := "loop.example/rotorciphers/laws.FnTransposeBack", spec := "fnTransposeBack", unfollowed := true, recurses := true, apart := false, narrowed := true }
def FnTransposeBackUptoSaid : Prop := fnTransposeBackUptoRow.holds Try.pinned (OpenSpec.upto fnTransposeBackSpec)

end Rows
end Go.Proofs.Ytljnakjphbnbjaa
