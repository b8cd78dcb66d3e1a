
/- Closed runs: InductCounts. -/
import Derived.Test.YtgpogemdoopdjaaGreatRunZ
import Derived.Test.YtgpogemdoopdjaaGreatFnE
namespace Go.Run
open Go.HL
set_option maxRecDepth 1000000
set_option linter.unusedVariables false

theorem ic00 : F6 (.z .u8 (Int.ofNat 0)) (.b false) A0 yes = true := by kernel_rfl
theorem ic01 : F6 (.z .u8 (Int.ofNat 0)) (.b true) A0 yes = true := by kernel_rfl
theorem ic10 : F6 (.z .u8 (Int.ofNat 1)) (.b false) A0 yes = true := by kernel_rfl
theorem ic11 : F6 (.z .u8 (Int.ofNat 1)) (.b true) A0 yes = true := by kernel_rfl
theorem ic21 : F6 (.z .u8 (Int.ofNat 2)) (.b true) A0 yes = true := by kernel_rfl
end Go.Run
