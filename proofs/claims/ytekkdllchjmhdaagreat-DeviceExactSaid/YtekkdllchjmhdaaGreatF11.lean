/- Part 11 of the proof. -/
import Derived.Test.YtekkdllchjmhdaaGreatF1
import Derived.Lib.SplitLaws
import Derived.Lib.Join
import Derived.Lib.TrailingZeros
set_option linter.unusedSectionVars false
set_option linter.unusedSimpArgs false
set_option linter.unusedVariables false
set_option maxHeartbeats 32000000
namespace Go.V
end Go.V
