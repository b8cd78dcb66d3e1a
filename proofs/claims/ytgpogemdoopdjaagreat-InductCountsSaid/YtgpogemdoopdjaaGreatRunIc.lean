
/- Closed runs: InductCounts: all inputs. -/
import Derived.Test.YtgpogemdoopdjaaGreatRunZ
import Derived.Test.YtgpogemdoopdjaaGreatFnE
import Derived.Test.YtgpogemdoopdjaaGreatRunIc1
import Derived.Test.YtgpogemdoopdjaaGreatRunIc2
namespace Go.Run
open Go.HL
set_option maxRecDepth 1000000
set_option linter.unusedVariables false

theorem ic_mod {a : Nat} (ha : a < 256) (b : Bool) : F6 (.z .u8 (Int.ofNat a)) (.b b) A0 yes = F6 (.z .u8 (Int.ofNat (a % 3))) (.b b) A0 yes := by
  have h1 : a % 3 < 256 := by omega
  unfold F6
  simp only [f6J1, conv_u8 ha, conv_u8 h1, rem_n (show (nat_lit 3) ≠ 0 by decide), Nat.mod_mod]
theorem ic_all {a : Nat} (ha : a < 256) (b : Bool) : F6 (.z .u8 (Int.ofNat a)) (.b b) A0 yes = true := by
  rw [ic_mod ha]
  have h1 : a % 3 < 3 := Nat.mod_lt _ (by decide)
  generalize a % 3 = i at h1
  match i, h1, b with
  | 0, _, false => exact ic00
  | 0, _, true => exact ic01
  | 1, _, false => exact ic10
  | 1, _, true => exact ic11
  | 2, _, false => exact ic20
  | 2, _, true => exact ic21
  | _ + 3, h, _ => omega
theorem inductCounts_spec {H : Heap} {m0 : Int} {b1 : Bool} (h0 : 0 ≤ m0 ∧ m0 ≤ 255) : CallF Go.Proofs.Tryz.prog 6 [.int .u8 m0, .bool b1] H (fun r H' => r = .bool true ∧ Fr [] H H') NoP := by
  obtain ⟨a, rfl⟩ := Int.eq_ofNat_of_zero_le h0.1
  exact spec_of F6_ok (args := [.z .u8 (Int.ofNat a), .b b1]) (by simp only [VRl, VR]; exact ⟨_, _, rfl, rfl, _, _, rfl, rfl, rfl⟩) (ic_all (by omega) b1)
end Go.Run
