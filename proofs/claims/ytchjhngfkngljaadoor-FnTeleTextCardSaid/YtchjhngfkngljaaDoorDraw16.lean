/- Tapes that are drawn. No condition. -/
import Derived.Test.YtchjhngfkngljaaDoorDraw18
set_option linter.unusedVariables false
namespace Go.Proofs.YtchjhngfkngljaaDoor
open Go.RowKit

def RetAnyT2 (w : World) (m : Nat) (e : Ending) (w' : World) : Prop := ∃ r s, e = .returned (.tuple #[.string r, .string s]) ∧ r.size ≤ m ∧ s.size ≤ m ∧ Below w.heap.size w w'
end Go.Proofs.YtchjhngfkngljaaDoor
