
/- Closed runs: BmcCounts. -/
import Derived.Test.YtgpogemdoopdjaaGreatRunZ
import Derived.Test.YtgpogemdoopdjaaGreatFnE
namespace Go.Run
open Go.HL
set_option maxRecDepth 1000000
set_option linter.unusedVariables false

theorem bc20 : F4 (.z .u8 (Int.ofNat 2)) (.z .u8 (Int.ofNat 0)) A0 yes = true := by kernel_rfl
theorem bc21 : F4 (.z .u8 (Int.ofNat 2)) (.z .u8 (Int.ofNat 1)) A0 yes = true := by kernel_rfl
theorem bc22 : F4 (.z .u8 (Int.ofNat 2)) (.z .u8 (Int.ofNat 2)) A0 yes = true := by kernel_rfl
theorem bc23 : F4 (.z .u8 (Int.ofNat 2)) (.z .u8 (Int.ofNat 3)) A0 yes = true := by kernel_rfl
theorem bc24 : F4 (.z .u8 (Int.ofNat 2)) (.z .u8 (Int.ofNat 4)) A0 yes = true := by kernel_rfl
theorem bc25 : F4 (.z .u8 (Int.ofNat 2)) (.z .u8 (Int.ofNat 5)) A0 yes = true := by kernel_rfl
theorem bc30 : F4 (.z .u8 (Int.ofNat 3)) (.z .u8 (Int.ofNat 0)) A0 yes = true := by kernel_rfl
theorem bc31 : F4 (.z .u8 (Int.ofNat 3)) (.z .u8 (Int.ofNat 1)) A0 yes = true := by kernel_rfl
theorem bc32 : F4 (.z .u8 (Int.ofNat 3)) (.z .u8 (Int.ofNat 2)) A0 yes = true := by kernel_rfl
theorem bc33 : F4 (.z .u8 (Int.ofNat 3)) (.z .u8 (Int.ofNat 3)) A0 yes = true := by kernel_rfl
end Go.Run
