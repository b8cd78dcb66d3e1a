
/- Closed runs: BmcCounts. -/
import Derived.Test.YtgpogemdoopdjaaGreatRunZ
import Derived.Test.YtgpogemdoopdjaaGreatFnE
namespace Go.Run
open Go.HL
set_option maxRecDepth 1000000
set_option linter.unusedVariables false

theorem bc00 : F4 (.z .u8 (Int.ofNat 0)) (.z .u8 (Int.ofNat 0)) A0 yes = true := by kernel_rfl
theorem bc01 : F4 (.z .u8 (Int.ofNat 0)) (.z .u8 (Int.ofNat 1)) A0 yes = true := by kernel_rfl
theorem bc02 : F4 (.z .u8 (Int.ofNat 0)) (.z .u8 (Int.ofNat 2)) A0 yes = true := by kernel_rfl
theorem bc03 : F4 (.z .u8 (Int.ofNat 0)) (.z .u8 (Int.ofNat 3)) A0 yes = true := by kernel_rfl
theorem bc04 : F4 (.z .u8 (Int.ofNat 0)) (.z .u8 (Int.ofNat 4)) A0 yes = true := by kernel_rfl
theorem bc05 : F4 (.z .u8 (Int.ofNat 0)) (.z .u8 (Int.ofNat 5)) A0 yes = true := by kernel_rfl
theorem bc10 : F4 (.z .u8 (Int.ofNat 1)) (.z .u8 (Int.ofNat 0)) A0 yes = true := by kernel_rfl
theorem bc11 : F4 (.z .u8 (Int.ofNat 1)) (.z .u8 (Int.ofNat 1)) A0 yes = true := by kernel_rfl
theorem bc12 : F4 (.z .u8 (Int.ofNat 1)) (.z .u8 (Int.ofNat 2)) A0 yes = true := by kernel_rfl
theorem bc13 : F4 (.z .u8 (Int.ofNat 1)) (.z .u8 (Int.ofNat 3)) A0 yes = true := by kernel_rfl
theorem bc14 : F4 (.z .u8 (Int.ofNat 1)) (.z .u8 (Int.ofNat 4)) A0 yes = true := by kernel_rfl
theorem bc15 : F4 (.z .u8 (Int.ofNat 1)) (.z .u8 (Int.ofNat 5)) A0 yes = true := by kernel_rfl
end Go.Run
