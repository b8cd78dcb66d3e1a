
/- Closed runs: UnrollLong. -/
import Derived.Test.YtgpogemdoopdjaaGreatRunZ
import Derived.Test.YtgpogemdoopdjaaGreatFnE
namespace Go.Run
open Go.HL
set_option maxRecDepth 1000000
set_option linter.unusedVariables false
theorem ul5_0 : newB A0 (.c true 0 (ctL [])) (fun i A => f3J1 yes (.z .u8 (Int.ofNat 5)) (.q i 0 0 0 1 false) A) = true := by kernel_rfl
theorem ul5_1 : ∀ (x0 : Bool), newB A0 (.c true 1 (ctL [.b x0])) (fun i A => f3J1 yes (.z .u8 (Int.ofNat 5)) (.q i 0 1 1 1 false) A) = true := by intro x0; kernel_rfl
theorem ul5_2 : ∀ (x0 : Bool) (x1 : Bool), newB A0 (.c true 2 (ctL [.b x0, .b x1])) (fun i A => f3J1 yes (.z .u8 (Int.ofNat 5)) (.q i 0 2 2 1 false) A) = true := by intro x0 x1; kernel_rfl
theorem ul5_3 : ∀ (x0 : Bool) (x1 : Bool) (x2 : Bool), newB A0 (.c true 3 (ctL [.b x0, .b x1, .b x2])) (fun i A => f3J1 yes (.z .u8 (Int.ofNat 5)) (.q i 0 3 3 1 false) A) = true := by intro x0 x1 x2; kernel_rfl
theorem ul5_4 : ∀ (x0 : Bool) (x1 : Bool) (x2 : Bool) (x3 : Bool), newB A0 (.c true 4 (ctL [.b x0, .b x1, .b x2, .b x3])) (fun i A => f3J1 yes (.z .u8 (Int.ofNat 5)) (.q i 0 4 4 1 false) A) = true := by intro x0 x1 x2 x3; kernel_rfl
theorem ul5_5 : ∀ (x0 : Bool) (x1 : Bool) (x2 : Bool) (x3 : Bool) (x4 : Bool), newB A0 (.c true 5 (ctL [.b x0, .b x1, .b x2, .b x3, .b x4])) (fun i A => f3J1 yes (.z .u8 (Int.ofNat 5)) (.q i 0 5 5 1 false) A) = true := by intro x0 x1 x2 x3 x4; kernel_rfl
theorem ul5_6 : ∀ (x0 : Bool) (x1 : Bool) (x2 : Bool) (x3 : Bool) (x4 : Bool) (x5 : Bool), newB A0 (.c true 6 (ctL [.b x0, .b x1, .b x2, .b x3, .b x4, .b x5])) (fun i A => f3J1 yes (.z .u8 (Int.ofNat 5)) (.q i 0 6 6 1 false) A) = true := by intro x0 x1 x2 x3 x4 x5; kernel_rfl
theorem ul5_7 : ∀ (x0 : Bool) (x1 : Bool) (x2 : Bool) (x3 : Bool) (x4 : Bool) (x5 : Bool) (x6 : Bool), newB A0 (.c true 7 (ctL [.b x0, .b x1, .b x2, .b x3, .b x4, .b x5, .b x6])) (fun i A => f3J1 yes (.z .u8 (Int.ofNat 5)) (.q i 0 7 7 1 false) A) = true := by intro x0 x1 x2 x3 x4 x5 x6; kernel_rfl
theorem ul5_8 : ∀ (x0 : Bool) (x1 : Bool) (x2 : Bool) (x3 : Bool) (x4 : Bool) (x5 : Bool) (x6 : Bool) (x7 : Bool), newB A0 (.c true 8 (ctL [.b x0, .b x1, .b x2, .b x3, .b x4, .b x5, .b x6, .b x7])) (fun i A => f3J1 yes (.z .u8 (Int.ofNat 5)) (.q i 0 8 8 1 false) A) = true := by intro x0 x1 x2 x3 x4 x5 x6 x7; kernel_rfl
theorem ul5_9 : ∀ (x0 : Bool) (x1 : Bool) (x2 : Bool) (x3 : Bool) (x4 : Bool) (x5 : Bool) (x6 : Bool) (x7 : Bool) (x8 : Bool), newB A0 (.c true 9 (ctL [.b x0, .b x1, .b x2, .b x3, .b x4, .b x5, .b x6, .b x7, .b x8])) (fun i A => f3J1 yes (.z .u8 (Int.ofNat 5)) (.q i 0 9 9 1 false) A) = true := by intro x0 x1 x2 x3 x4 x5 x6 x7 x8; kernel_rfl
theorem ul5_g : ∀ (y : Nat) (x0 : Bool) (x1 : Bool) (x2 : Bool) (x3 : Bool) (x4 : Bool) (x5 : Bool) (x6 : Bool) (x7 : Bool) (x8 : Bool) (x9 : Bool), newB A0 (.c true 10 (ctL [.b x0, .b x1, .b x2, .b x3, .b x4, .b x5, .b x6, .b x7, .b x8, .b x9])) (fun i A => f3J1 yes (.z .u8 (Int.ofNat 5)) (.q i 0 (y + 10) (y + 10) 1 false) A) = true := by intro y x0 x1 x2 x3 x4 x5 x6 x7 x8 x9; kernel_rfl
end Go.Run
