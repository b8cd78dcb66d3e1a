
/- Closed runs: InductCounts. -/
import Derived.Test.YtgpogemdoopdjaaGreatRunZ
import Derived.Test.YtgpogemdoopdjaaGreatFnE
namespace Go.Run
open Go.HL
set_option maxRecDepth 1000000
set_option linter.unusedVariables false

theorem ic20 : F6 (.z .u8 (Int.ofNat 2)) (.b false) A0 yes = true := by kernel_rfl
end Go.Run
