
/- Closed runs: SatHoles. -/
import Derived.Test.YtfcdglgagepciaaGreatRunY
import Derived.Test.YtfcdglgagepciaaGreatFnA
namespace Go.Run
open Go.HL
set_option maxRecDepth 1000000
set_option linter.unusedVariables false

theorem ho00 : F3 (.z .u8 (Int.ofNat 0)) (.z .u8 (Int.ofNat 0)) A0 yes = true := by kernel_rfl
theorem ho01 : F3 (.z .u8 (Int.ofNat 0)) (.z .u8 (Int.ofNat 1)) A0 yes = true := by kernel_rfl
theorem ho02 : F3 (.z .u8 (Int.ofNat 0)) (.z .u8 (Int.ofNat 2)) A0 yes = true := by kernel_rfl
theorem ho03 : F3 (.z .u8 (Int.ofNat 0)) (.z .u8 (Int.ofNat 3)) A0 yes = true := by kernel_rfl
theorem ho10 : F3 (.z .u8 (Int.ofNat 1)) (.z .u8 (Int.ofNat 0)) A0 yes = true := by kernel_rfl
theorem ho11 : F3 (.z .u8 (Int.ofNat 1)) (.z .u8 (Int.ofNat 1)) A0 yes = true := by kernel_rfl
theorem ho12 : F3 (.z .u8 (Int.ofNat 1)) (.z .u8 (Int.ofNat 2)) A0 yes = true := by kernel_rfl
theorem ho13 : F3 (.z .u8 (Int.ofNat 1)) (.z .u8 (Int.ofNat 3)) A0 yes = true := by kernel_rfl
theorem ho20 : F3 (.z .u8 (Int.ofNat 2)) (.z .u8 (Int.ofNat 0)) A0 yes = true := by kernel_rfl
theorem ho21 : F3 (.z .u8 (Int.ofNat 2)) (.z .u8 (Int.ofNat 1)) A0 yes = true := by kernel_rfl
theorem ho22 : F3 (.z .u8 (Int.ofNat 2)) (.z .u8 (Int.ofNat 2)) A0 yes = true := by kernel_rfl
theorem ho23 : F3 (.z .u8 (Int.ofNat 2)) (.z .u8 (Int.ofNat 3)) A0 yes = true := by kernel_rfl
theorem ho30 : F3 (.z .u8 (Int.ofNat 3)) (.z .u8 (Int.ofNat 0)) A0 yes = true := by kernel_rfl
theorem ho31 : F3 (.z .u8 (Int.ofNat 3)) (.z .u8 (Int.ofNat 1)) A0 yes = true := by kernel_rfl
theorem ho32 : F3 (.z .u8 (Int.ofNat 3)) (.z .u8 (Int.ofNat 2)) A0 yes = true := by kernel_rfl
theorem ho33 : F3 (.z .u8 (Int.ofNat 3)) (.z .u8 (Int.ofNat 3)) A0 yes = true := by kernel_rfl
theorem ho_mod {a b : Nat} (ha : a < 256) (hb : b < 256) : F3 (.z .u8 (Int.ofNat a)) (.z .u8 (Int.ofNat b)) A0 yes = F3 (.z .u8 (Int.ofNat (a % 4))) (.z .u8 (Int.ofNat (b % 4))) A0 yes := by
  have h1 : a % 4 < 256 := by omega
  have h2 : b % 4 < 256 := by omega
  unfold F3
  simp only [conv_u8 ha, conv_u8 hb, conv_u8 h1, conv_u8 h2, rem_n (show (nat_lit 4) ≠ 0 by decide), Nat.mod_mod]
theorem ho_all {a b : Nat} (ha : a < 256) (hb : b < 256) : F3 (.z .u8 (Int.ofNat a)) (.z .u8 (Int.ofNat b)) A0 yes = true := by
  rw [ho_mod ha hb]
  have h1 : a % 4 < 4 := Nat.mod_lt _ (by decide)
  have h2 : b % 4 < 4 := Nat.mod_lt _ (by decide)
  generalize a % 4 = i at h1
  generalize b % 4 = j at h2
  match i, h1, j, h2 with
  | 0, _, 0, _ => exact ho00
  | 0, _, 1, _ => exact ho01
  | 0, _, 2, _ => exact ho02
  | 0, _, 3, _ => exact ho03
  | 1, _, 0, _ => exact ho10
  | 1, _, 1, _ => exact ho11
  | 1, _, 2, _ => exact ho12
  | 1, _, 3, _ => exact ho13
  | 2, _, 0, _ => exact ho20
  | 2, _, 1, _ => exact ho21
  | 2, _, 2, _ => exact ho22
  | 2, _, 3, _ => exact ho23
  | 3, _, 0, _ => exact ho30
  | 3, _, 1, _ => exact ho31
  | 3, _, 2, _ => exact ho32
  | 3, _, 3, _ => exact ho33
  | _ + 4, h, _, _ => omega
  | _, _, _ + 4, h => omega
theorem satHoles_spec {H : Heap} {m0 m1 : Int} (h0 : 0 ≤ m0 ∧ m0 ≤ 255) (h1 : 0 ≤ m1 ∧ m1 ≤ 255) : CallF Go.Proofs.Tryz.prog 3 [.int .u8 m0, .int .u8 m1] H (fun r H' => r = .bool true ∧ Fr [] H H') NoP := by
  obtain ⟨a, rfl⟩ := Int.eq_ofNat_of_zero_le h0.1
  obtain ⟨b, rfl⟩ := Int.eq_ofNat_of_zero_le h1.1
  exact spec_of F3_ok (args := [.z .u8 (Int.ofNat a), .z .u8 (Int.ofNat b)]) (by simp only [VRl, VR]; exact ⟨_, _, rfl, rfl, _, _, rfl, rfl, rfl⟩) (ho_all (by omega) (by omega))
end Go.Run
