/- The places along a fence: both programs return what the plain function says. No condition. -/
import Derived.Test.YtofnknfoblkcfaaPlainR
import Derived.Test.YtofnknfoblkcfaaPeriod
import Derived.Lib.AppendZeros
set_option linter.unusedVariables false
namespace Go.Proofs.Ytofnknfoblkcfaa
open Go.RowKit

theorem emptyRowR (w : World) (B : Nat) (hB : B ≤ w.heap.size) : (w.alloc (.cells #[] 3)).ownsRow B 3 1 (.slice (some ⟨w.heap.size, 0, none⟩) 0 0) 0 (icells []) :=
  World.ownsRow_lit w #[] 0 hB (Nat.zero_le _) rfl
end Go.Proofs.Ytofnknfoblkcfaa
