
/- Closed runs: BmcHeld. -/
import Derived.Test.YtgpogemdoopdjaaGreatRunZ
import Derived.Test.YtgpogemdoopdjaaGreatFnE
namespace Go.Run
open Go.HL
set_option maxRecDepth 1000000
set_option linter.unusedVariables false

theorem bh0 : F5 (.z .i16 (Int.ofNat 0)) A0 yes = true := by kernel_rfl
theorem bh1 : F5 (.z .i16 (Int.ofNat 1)) A0 yes = true := by kernel_rfl
theorem bh2 : F5 (.z .i16 (Int.ofNat 2)) A0 yes = true := by kernel_rfl
theorem bh3 : F5 (.z .i16 (Int.ofNat 3)) A0 yes = true := by kernel_rfl
theorem bh4 : F5 (.z .i16 (Int.ofNat 4)) A0 yes = true := by kernel_rfl
theorem bh5 : F5 (.z .i16 (Int.ofNat 5)) A0 yes = true := by kernel_rfl
theorem bh6 : F5 (.z .i16 (Int.ofNat 6)) A0 yes = true := by kernel_rfl
theorem bh_neg (y : Nat) (h : y < 32768) : F5 (.z .i16 (Int.negSucc y)) A0 yes = true := by
  unfold F5
  simp only [conv_neg (show y < 9223372036854775808 by omega)]
  kernel_rfl
theorem bh_gt {n : Nat} (h : n < 32768) (h6 : 6 < n) : F5 (.z .i16 (Int.ofNat n)) A0 yes = F5 (.z .i16 (Int.ofNat 6)) A0 yes := by
  unfold F5
  simp only [conv_z (show n < 9223372036854775808 by omega), conv_z (show 6 < 9223372036854775808 by omega), min_gt h6, min_le (Nat.le_refl 6)]
theorem bh_pos {n : Nat} (h : n < 32768) : F5 (.z .i16 (Int.ofNat n)) A0 yes = true := by
  by_cases h6 : 6 < n
  · rw [bh_gt h h6]; exact bh6
  · match n, h6 with
    | 0, _ => exact bh0
    | 1, _ => exact bh1
    | 2, _ => exact bh2
    | 3, _ => exact bh3
    | 4, _ => exact bh4
    | 5, _ => exact bh5
    | 6, _ => exact bh6
    | n + 7, h => omega
theorem bmcHeld_spec {H : Heap} {m0 : Int} (h0 : -32768 ≤ m0 ∧ m0 ≤ 32767) : CallF Go.Proofs.Tryz.prog 5 [.int .i16 m0] H (fun r H' => r = .bool true ∧ Fr [] H H') NoP := by
  refine spec_of F5_ok (args := [.z .i16 m0]) (by simp only [VRl, VR]; exact ⟨_, _, rfl, rfl, rfl⟩) ?_
  cases m0 with
  | ofNat n => exact bh_pos (by have := h0.2; simp only [Int.ofNat_eq_natCast] at this; omega)
  | negSucc y => exact bh_neg y (by have := h0.1; rw [Int.negSucc_eq] at this; omega)
end Go.Run
