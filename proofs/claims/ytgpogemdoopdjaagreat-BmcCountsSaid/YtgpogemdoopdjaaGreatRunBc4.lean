
/- Closed runs: BmcCounts. -/
import Derived.Test.YtgpogemdoopdjaaGreatRunZ
import Derived.Test.YtgpogemdoopdjaaGreatFnE
namespace Go.Run
open Go.HL
set_option maxRecDepth 1000000
set_option linter.unusedVariables false

theorem bc34 : F4 (.z .u8 (Int.ofNat 3)) (.z .u8 (Int.ofNat 4)) A0 yes = true := by kernel_rfl
theorem bc35 : F4 (.z .u8 (Int.ofNat 3)) (.z .u8 (Int.ofNat 5)) A0 yes = true := by kernel_rfl
end Go.Run
