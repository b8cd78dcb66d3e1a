
/- Closed runs: UnrollLong: all inputs. -/
import Derived.Test.YtgpogemdoopdjaaGreatRunZ
import Derived.Test.YtgpogemdoopdjaaGreatFnE
import Derived.Test.YtgpogemdoopdjaaGreatRunUa
import Derived.Test.YtgpogemdoopdjaaGreatRunUb
import Derived.Test.YtgpogemdoopdjaaGreatRunUc
namespace Go.Run
open Go.HL
set_option maxRecDepth 1000000
set_option linter.unusedVariables false

theorem ul_mod {a : Nat} (ha : a < 256) {v : AV} {A : AH} : f3J1 yes (.z .u8 (Int.ofNat a)) v A = f3J1 yes (.z .u8 (Int.ofNat (a % 7))) v A := by
  have h1 : a % 7 < 256 := by omega
  unfold f3J1
  simp only [conv_u8 ha, conv_u8 h1, rem_n (show (nat_lit 7) ≠ 0 by decide), Nat.mod_mod]
/-- What is to be known of the bools. -/
def ULr (k L : Nat) (bs : List Bool) : Prop := newB A0 (.c true bs.length (ctL (bs.map AV.b))) (fun i A => f3J1 yes (.z .u8 (Int.ofNat k)) (.q i 0 L L 1 false) A) = true
theorem ulr0 {xs : List Bool} : ULr 0 xs.length (xs.take 0) := by
  unfold ULr
  match xs with
  | r => exact ul0_g r.length
theorem ulr1 {xs : List Bool} : ULr 1 xs.length (xs.take 2) := by
  unfold ULr
  match xs with
  | [] => exact ul1_0
  | [x0] => exact ul1_1 x0
  | x0 :: x1 :: r => exact ul1_g r.length x0 x1
theorem ulr2 {xs : List Bool} : ULr 2 xs.length (xs.take 4) := by
  unfold ULr
  match xs with
  | [] => exact ul2_0
  | [x0] => exact ul2_1 x0
  | [x0, x1] => exact ul2_2 x0 x1
  | [x0, x1, x2] => exact ul2_3 x0 x1 x2
  | x0 :: x1 :: x2 :: x3 :: r => exact ul2_g r.length x0 x1 x2 x3
theorem ulr3 {xs : List Bool} : ULr 3 xs.length (xs.take 6) := by
  unfold ULr
  match xs with
  | [] => exact ul3_0
  | [x0] => exact ul3_1 x0
  | [x0, x1] => exact ul3_2 x0 x1
  | [x0, x1, x2] => exact ul3_3 x0 x1 x2
  | [x0, x1, x2, x3] => exact ul3_4 x0 x1 x2 x3
  | [x0, x1, x2, x3, x4] => exact ul3_5 x0 x1 x2 x3 x4
  | x0 :: x1 :: x2 :: x3 :: x4 :: x5 :: r => exact ul3_g r.length x0 x1 x2 x3 x4 x5
theorem ulr4 {xs : List Bool} : ULr 4 xs.length (xs.take 8) := by
  unfold ULr
  match xs with
  | [] => exact ul4_0
  | [x0] => exact ul4_1 x0
  | [x0, x1] => exact ul4_2 x0 x1
  | [x0, x1, x2] => exact ul4_3 x0 x1 x2
  | [x0, x1, x2, x3] => exact ul4_4 x0 x1 x2 x3
  | [x0, x1, x2, x3, x4] => exact ul4_5 x0 x1 x2 x3 x4
  | [x0, x1, x2, x3, x4, x5] => exact ul4_6 x0 x1 x2 x3 x4 x5
  | [x0, x1, x2, x3, x4, x5, x6] => exact ul4_7 x0 x1 x2 x3 x4 x5 x6
  | x0 :: x1 :: x2 :: x3 :: x4 :: x5 :: x6 :: x7 :: r => exact ul4_g r.length x0 x1 x2 x3 x4 x5 x6 x7
theorem ulr5 {xs : List Bool} : ULr 5 xs.length (xs.take 10) := by
  unfold ULr
  match xs with
  | [] => exact ul5_0
  | [x0] => exact ul5_1 x0
  | [x0, x1] => exact ul5_2 x0 x1
  | [x0, x1, x2] => exact ul5_3 x0 x1 x2
  | [x0, x1, x2, x3] => exact ul5_4 x0 x1 x2 x3
  | [x0, x1, x2, x3, x4] => exact ul5_5 x0 x1 x2 x3 x4
  | [x0, x1, x2, x3, x4, x5] => exact ul5_6 x0 x1 x2 x3 x4 x5
  | [x0, x1, x2, x3, x4, x5, x6] => exact ul5_7 x0 x1 x2 x3 x4 x5 x6
  | [x0, x1, x2, x3, x4, x5, x6, x7] => exact ul5_8 x0 x1 x2 x3 x4 x5 x6 x7
  | [x0, x1, x2, x3, x4, x5, x6, x7, x8] => exact ul5_9 x0 x1 x2 x3 x4 x5 x6 x7 x8
  | x0 :: x1 :: x2 :: x3 :: x4 :: x5 :: x6 :: x7 :: x8 :: x9 :: r => exact ul5_g r.length x0 x1 x2 x3 x4 x5 x6 x7 x8 x9
theorem ulr6 {xs : List Bool} : ULr 6 xs.length (xs.take 12) := by
  unfold ULr
  match xs with
  | [] => exact ul6_0
  | [x0] => exact ul6_1 x0
  | [x0, x1] => exact ul6_2 x0 x1
  | [x0, x1, x2] => exact ul6_3 x0 x1 x2
  | [x0, x1, x2, x3] => exact ul6_4 x0 x1 x2 x3
  | [x0, x1, x2, x3, x4] => exact ul6_5 x0 x1 x2 x3 x4
  | [x0, x1, x2, x3, x4, x5] => exact ul6_6 x0 x1 x2 x3 x4 x5
  | [x0, x1, x2, x3, x4, x5, x6] => exact ul6_7 x0 x1 x2 x3 x4 x5 x6
  | [x0, x1, x2, x3, x4, x5, x6, x7] => exact ul6_8 x0 x1 x2 x3 x4 x5 x6 x7
  | [x0, x1, x2, x3, x4, x5, x6, x7, x8] => exact ul6_9 x0 x1 x2 x3 x4 x5 x6 x7 x8
  | [x0, x1, x2, x3, x4, x5, x6, x7, x8, x9] => exact ul6_10 x0 x1 x2 x3 x4 x5 x6 x7 x8 x9
  | [x0, x1, x2, x3, x4, x5, x6, x7, x8, x9, x10] => exact ul6_11 x0 x1 x2 x3 x4 x5 x6 x7 x8 x9 x10
  | x0 :: x1 :: x2 :: x3 :: x4 :: x5 :: x6 :: x7 :: x8 :: x9 :: x10 :: x11 :: r => exact ul6_g r.length x0 x1 x2 x3 x4 x5 x6 x7 x8 x9 x10 x11
theorem ul_all {a : Nat} (ha : a < 256) (xs : List Bool) : ∃ m, m ≤ 12 ∧ newB A0 (.c true (xs.take m).length (ctL ((xs.take m).map AV.b))) (fun i A => f3J1 yes (.z .u8 (Int.ofNat a)) (.q i 0 xs.length xs.length 1 false) A) = true := by
  simp only [ul_mod ha]
  have h1 : a % 7 < 7 := Nat.mod_lt _ (by decide)
  generalize a % 7 = i at h1
  match i, h1 with
  | 0, _ => exact ⟨0, by decide, ulr0⟩
  | 1, _ => exact ⟨2, by decide, ulr1⟩
  | 2, _ => exact ⟨4, by decide, ulr2⟩
  | 3, _ => exact ⟨6, by decide, ulr3⟩
  | 4, _ => exact ⟨8, by decide, ulr4⟩
  | 5, _ => exact ⟨10, by decide, ulr5⟩
  | 6, _ => exact ⟨12, by decide, ulr6⟩
  | _ + 7, h => omega
theorem uln0 : f3J1 yes (.z .u8 (Int.ofNat 0)) (.nil 1) A0 = true := by kernel_rfl
theorem uln1 : f3J1 yes (.z .u8 (Int.ofNat 1)) (.nil 1) A0 = true := by kernel_rfl
theorem uln2 : f3J1 yes (.z .u8 (Int.ofNat 2)) (.nil 1) A0 = true := by kernel_rfl
theorem uln3 : f3J1 yes (.z .u8 (Int.ofNat 3)) (.nil 1) A0 = true := by kernel_rfl
theorem uln4 : f3J1 yes (.z .u8 (Int.ofNat 4)) (.nil 1) A0 = true := by kernel_rfl
theorem uln5 : f3J1 yes (.z .u8 (Int.ofNat 5)) (.nil 1) A0 = true := by kernel_rfl
theorem uln6 : f3J1 yes (.z .u8 (Int.ofNat 6)) (.nil 1) A0 = true := by kernel_rfl
theorem uln_all {a : Nat} (ha : a < 256) : f3J1 yes (.z .u8 (Int.ofNat a)) (.nil 1) A0 = true := by
  rw [ul_mod ha]
  have h1 : a % 7 < 7 := Nat.mod_lt _ (by decide)
  generalize a % 7 = i at h1
  match i, h1 with
  | 0, _ => exact uln0
  | 1, _ => exact uln1
  | 2, _ => exact uln2
  | 3, _ => exact uln3
  | 4, _ => exact uln4
  | 5, _ => exact uln5
  | 6, _ => exact uln6
  | _ + 7, h => omega
end Go.Run
