/- The tests on words return what the plain test says. No condition. -/
import Derived.Test.YtchjhngfkngljaaDoorConv
set_option linter.unusedVariables false
namespace Go.Proofs.YtchjhngfkngljaaDoor
open Go.RowKit

end Go.Proofs.YtchjhngfkngljaaDoor
