/- The tests on words return what the plain test says. No condition. -/
import Derived.Test.YtchjhngfkngljaaConv
set_option linter.unusedVariables false
namespace Go.Proofs.Ytchjhngfkngljaa
open Go.RowKit

end Go.Proofs.Ytchjhngfkngljaa
