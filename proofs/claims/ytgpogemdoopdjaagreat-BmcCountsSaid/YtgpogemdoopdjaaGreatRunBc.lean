
/- Closed runs: BmcCounts: all inputs. -/
import Derived.Test.YtgpogemdoopdjaaGreatRunZ
import Derived.Test.YtgpogemdoopdjaaGreatFnE
import Derived.Test.YtgpogemdoopdjaaGreatRunBc1
import Derived.Test.YtgpogemdoopdjaaGreatRunBc2
import Derived.Test.YtgpogemdoopdjaaGreatRunBc4
namespace Go.Run
open Go.HL
set_option maxRecDepth 1000000
set_option linter.unusedVariables false

theorem bc_mod {a b : Nat} (ha : a < 256) (hb : b < 256) : F4 (.z .u8 (Int.ofNat a)) (.z .u8 (Int.ofNat b)) A0 yes = F4 (.z .u8 (Int.ofNat (a % 4))) (.z .u8 (Int.ofNat (b % 6))) A0 yes := by
  have h1 : a % 4 < 256 := by omega
  have h2 : b % 6 < 256 := by omega
  unfold F4
  simp only [conv_u8 ha, conv_u8 h1, conv_u8 hb, conv_u8 h2, rem_n (show (nat_lit 4) ≠ 0 by decide), rem_n (show (nat_lit 6) ≠ 0 by decide), Nat.mod_mod]
theorem bc_all {a b : Nat} (ha : a < 256) (hb : b < 256) : F4 (.z .u8 (Int.ofNat a)) (.z .u8 (Int.ofNat b)) A0 yes = true := by
  rw [bc_mod ha hb]
  have h1 : a % 4 < 4 := Nat.mod_lt _ (by decide)
  have h2 : b % 6 < 6 := Nat.mod_lt _ (by decide)
  generalize a % 4 = i at h1
  generalize b % 6 = j at h2
  match i, h1, j, h2 with
  | 0, _, 0, _ => exact bc00
  | 0, _, 1, _ => exact bc01
  | 0, _, 2, _ => exact bc02
  | 0, _, 3, _ => exact bc03
  | 0, _, 4, _ => exact bc04
  | 0, _, 5, _ => exact bc05
  | 1, _, 0, _ => exact bc10
  | 1, _, 1, _ => exact bc11
  | 1, _, 2, _ => exact bc12
  | 1, _, 3, _ => exact bc13
  | 1, _, 4, _ => exact bc14
  | 1, _, 5, _ => exact bc15
  | 2, _, 0, _ => exact bc20
  | 2, _, 1, _ => exact bc21
  | 2, _, 2, _ => exact bc22
  | 2, _, 3, _ => exact bc23
  | 2, _, 4, _ => exact bc24
  | 2, _, 5, _ => exact bc25
  | 3, _, 0, _ => exact bc30
  | 3, _, 1, _ => exact bc31
  | 3, _, 2, _ => exact bc32
  | 3, _, 3, _ => exact bc33
  | 3, _, 4, _ => exact bc34
  | 3, _, 5, _ => exact bc35
  | _ + 4, h, _, _ => omega
  | _, _, _ + 6, h => omega
theorem bmcCounts_spec {H : Heap} {m0 m1 : Int} (h0 : 0 ≤ m0 ∧ m0 ≤ 255) (h1 : 0 ≤ m1 ∧ m1 ≤ 255) : CallF Go.Proofs.Tryz.prog 4 [.int .u8 m0, .int .u8 m1] H (fun r H' => r = .bool true ∧ Fr [] H H') NoP := by
  obtain ⟨a, rfl⟩ := Int.eq_ofNat_of_zero_le h0.1
  obtain ⟨b, rfl⟩ := Int.eq_ofNat_of_zero_le h1.1
  exact spec_of F4_ok (args := [.z .u8 (Int.ofNat a), .z .u8 (Int.ofNat b)]) (by simp only [VRl, VR]; exact ⟨_, _, rfl, rfl, _, _, rfl, rfl, rfl⟩) (bc_all (by omega) (by omega))
end Go.Run
