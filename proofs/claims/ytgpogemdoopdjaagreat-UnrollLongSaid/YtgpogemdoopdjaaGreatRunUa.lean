
/- Closed runs: UnrollLong. -/
import Derived.Test.YtgpogemdoopdjaaGreatRunZ
import Derived.Test.YtgpogemdoopdjaaGreatFnE
namespace Go.Run
open Go.HL
set_option maxRecDepth 1000000
set_option linter.unusedVariables false
theorem ul0_g : ∀ (y : Nat), newB A0 (.c true 0 (ctL [])) (fun i A => f3J1 yes (.z .u8 (Int.ofNat 0)) (.q i 0 (y + 0) (y + 0) 1 false) A) = true := by intro y; kernel_rfl
theorem ul1_0 : newB A0 (.c true 0 (ctL [])) (fun i A => f3J1 yes (.z .u8 (Int.ofNat 1)) (.q i 0 0 0 1 false) A) = true := by kernel_rfl
theorem ul1_1 : ∀ (x0 : Bool), newB A0 (.c true 1 (ctL [.b x0])) (fun i A => f3J1 yes (.z .u8 (Int.ofNat 1)) (.q i 0 1 1 1 false) A) = true := by intro x0; kernel_rfl
theorem ul1_g : ∀ (y : Nat) (x0 : Bool) (x1 : Bool), newB A0 (.c true 2 (ctL [.b x0, .b x1])) (fun i A => f3J1 yes (.z .u8 (Int.ofNat 1)) (.q i 0 (y + 2) (y + 2) 1 false) A) = true := by intro y x0 x1; kernel_rfl
theorem ul2_0 : newB A0 (.c true 0 (ctL [])) (fun i A => f3J1 yes (.z .u8 (Int.ofNat 2)) (.q i 0 0 0 1 false) A) = true := by kernel_rfl
theorem ul2_1 : ∀ (x0 : Bool), newB A0 (.c true 1 (ctL [.b x0])) (fun i A => f3J1 yes (.z .u8 (Int.ofNat 2)) (.q i 0 1 1 1 false) A) = true := by intro x0; kernel_rfl
theorem ul2_2 : ∀ (x0 : Bool) (x1 : Bool), newB A0 (.c true 2 (ctL [.b x0, .b x1])) (fun i A => f3J1 yes (.z .u8 (Int.ofNat 2)) (.q i 0 2 2 1 false) A) = true := by intro x0 x1; kernel_rfl
theorem ul2_3 : ∀ (x0 : Bool) (x1 : Bool) (x2 : Bool), newB A0 (.c true 3 (ctL [.b x0, .b x1, .b x2])) (fun i A => f3J1 yes (.z .u8 (Int.ofNat 2)) (.q i 0 3 3 1 false) A) = true := by intro x0 x1 x2; kernel_rfl
theorem ul2_g : ∀ (y : Nat) (x0 : Bool) (x1 : Bool) (x2 : Bool) (x3 : Bool), newB A0 (.c true 4 (ctL [.b x0, .b x1, .b x2, .b x3])) (fun i A => f3J1 yes (.z .u8 (Int.ofNat 2)) (.q i 0 (y + 4) (y + 4) 1 false) A) = true := by intro y x0 x1 x2 x3; kernel_rfl
theorem ul3_0 : newB A0 (.c true 0 (ctL [])) (fun i A => f3J1 yes (.z .u8 (Int.ofNat 3)) (.q i 0 0 0 1 false) A) = true := by kernel_rfl
theorem ul3_1 : ∀ (x0 : Bool), newB A0 (.c true 1 (ctL [.b x0])) (fun i A => f3J1 yes (.z .u8 (Int.ofNat 3)) (.q i 0 1 1 1 false) A) = true := by intro x0; kernel_rfl
theorem ul3_2 : ∀ (x0 : Bool) (x1 : Bool), newB A0 (.c true 2 (ctL [.b x0, .b x1])) (fun i A => f3J1 yes (.z .u8 (Int.ofNat 3)) (.q i 0 2 2 1 false) A) = true := by intro x0 x1; kernel_rfl
theorem ul3_3 : ∀ (x0 : Bool) (x1 : Bool) (x2 : Bool), newB A0 (.c true 3 (ctL [.b x0, .b x1, .b x2])) (fun i A => f3J1 yes (.z .u8 (Int.ofNat 3)) (.q i 0 3 3 1 false) A) = true := by intro x0 x1 x2; kernel_rfl
theorem ul3_4 : ∀ (x0 : Bool) (x1 : Bool) (x2 : Bool) (x3 : Bool), newB A0 (.c true 4 (ctL [.b x0, .b x1, .b x2, .b x3])) (fun i A => f3J1 yes (.z .u8 (Int.ofNat 3)) (.q i 0 4 4 1 false) A) = true := by intro x0 x1 x2 x3; kernel_rfl
theorem ul3_5 : ∀ (x0 : Bool) (x1 : Bool) (x2 : Bool) (x3 : Bool) (x4 : Bool), newB A0 (.c true 5 (ctL [.b x0, .b x1, .b x2, .b x3, .b x4])) (fun i A => f3J1 yes (.z .u8 (Int.ofNat 3)) (.q i 0 5 5 1 false) A) = true := by intro x0 x1 x2 x3 x4; kernel_rfl
theorem ul3_g : ∀ (y : Nat) (x0 : Bool) (x1 : Bool) (x2 : Bool) (x3 : Bool) (x4 : Bool) (x5 : Bool), newB A0 (.c true 6 (ctL [.b x0, .b x1, .b x2, .b x3, .b x4, .b x5])) (fun i A => f3J1 yes (.z .u8 (Int.ofNat 3)) (.q i 0 (y + 6) (y + 6) 1 false) A) = true := by intro y x0 x1 x2 x3 x4 x5; kernel_rfl
theorem ul4_0 : newB A0 (.c true 0 (ctL [])) (fun i A => f3J1 yes (.z .u8 (Int.ofNat 4)) (.q i 0 0 0 1 false) A) = true := by kernel_rfl
theorem ul4_1 : ∀ (x0 : Bool), newB A0 (.c true 1 (ctL [.b x0])) (fun i A => f3J1 yes (.z .u8 (Int.ofNat 4)) (.q i 0 1 1 1 false) A) = true := by intro x0; kernel_rfl
theorem ul4_2 : ∀ (x0 : Bool) (x1 : Bool), newB A0 (.c true 2 (ctL [.b x0, .b x1])) (fun i A => f3J1 yes (.z .u8 (Int.ofNat 4)) (.q i 0 2 2 1 false) A) = true := by intro x0 x1; kernel_rfl
theorem ul4_3 : ∀ (x0 : Bool) (x1 : Bool) (x2 : Bool), newB A0 (.c true 3 (ctL [.b x0, .b x1, .b x2])) (fun i A => f3J1 yes (.z .u8 (Int.ofNat 4)) (.q i 0 3 3 1 false) A) = true := by intro x0 x1 x2; kernel_rfl
theorem ul4_4 : ∀ (x0 : Bool) (x1 : Bool) (x2 : Bool) (x3 : Bool), newB A0 (.c true 4 (ctL [.b x0, .b x1, .b x2, .b x3])) (fun i A => f3J1 yes (.z .u8 (Int.ofNat 4)) (.q i 0 4 4 1 false) A) = true := by intro x0 x1 x2 x3; kernel_rfl
theorem ul4_5 : ∀ (x0 : Bool) (x1 : Bool) (x2 : Bool) (x3 : Bool) (x4 : Bool), newB A0 (.c true 5 (ctL [.b x0, .b x1, .b x2, .b x3, .b x4])) (fun i A => f3J1 yes (.z .u8 (Int.ofNat 4)) (.q i 0 5 5 1 false) A) = true := by intro x0 x1 x2 x3 x4; kernel_rfl
theorem ul4_6 : ∀ (x0 : Bool) (x1 : Bool) (x2 : Bool) (x3 : Bool) (x4 : Bool) (x5 : Bool), newB A0 (.c true 6 (ctL [.b x0, .b x1, .b x2, .b x3, .b x4, .b x5])) (fun i A => f3J1 yes (.z .u8 (Int.ofNat 4)) (.q i 0 6 6 1 false) A) = true := by intro x0 x1 x2 x3 x4 x5; kernel_rfl
theorem ul4_7 : ∀ (x0 : Bool) (x1 : Bool) (x2 : Bool) (x3 : Bool) (x4 : Bool) (x5 : Bool) (x6 : Bool), newB A0 (.c true 7 (ctL [.b x0, .b x1, .b x2, .b x3, .b x4, .b x5, .b x6])) (fun i A => f3J1 yes (.z .u8 (Int.ofNat 4)) (.q i 0 7 7 1 false) A) = true := by intro x0 x1 x2 x3 x4 x5 x6; kernel_rfl
theorem ul4_g : ∀ (y : Nat) (x0 : Bool) (x1 : Bool) (x2 : Bool) (x3 : Bool) (x4 : Bool) (x5 : Bool) (x6 : Bool) (x7 : Bool), newB A0 (.c true 8 (ctL [.b x0, .b x1, .b x2, .b x3, .b x4, .b x5, .b x6, .b x7])) (fun i A => f3J1 yes (.z .u8 (Int.ofNat 4)) (.q i 0 (y + 8) (y + 8) 1 false) A) = true := by intro y x0 x1 x2 x3 x4 x5 x6 x7; kernel_rfl
end Go.Run
