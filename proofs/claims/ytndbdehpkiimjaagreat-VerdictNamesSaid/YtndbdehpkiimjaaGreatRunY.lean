
/- Closed runs: from an empty abstract heap: a function that answers true there answers true, and writes nothing that was there. -/
import Derived.Test.YtndbdehpkiimjaaGreatRunX
import Derived.Test.YtndbdehpkiimjaaGreatHLMem
namespace Go.Run
open Go.HL
variable {σ : Nat → Value} {F : Nat → Option Obj} {φ : Phi} {A : AH} {H : Heap} {P : Program} {V : HV}
noncomputable section
set_option linter.unusedVariables false

def A0 : AH := ⟨all16 (all16 (all16 (all16 (all16 .no)))), ⟨.d0, .d0, .d0, .d0, .d0⟩⟩
def yes : AV → AH → Bool := fun v _ => v.on_b (fun b => b) false
abbrev s0 : Nat → Value := fun _ => undef
abbrev p0 : Phi := fun _ => none
theorem A0_get (i : Id) : A0.get i = .no := by
  unfold A0 AH.get
  simp only [sel_all]
theorem spec_of {f m : Nat} {G : FF m} (h : FOK P f m G) {args : List AV} {ws : List Value} (hv : VRl s0 p0 args ws) (hk : appF m G args A0 yes = true) : CallF P f ws H (fun r H' => r = .bool true ∧ Fr [] H H') NoP := by
  have hr : Rel s0 (fun r => H[r]?) p0 A0 H := ⟨fun i e h => (by cases h), fun i => (by rw [A0_get]; trivial), fun i j e e' h => absurd (A0_get i) h, fun r o h => h, fun r h => by simp [stat, undef] at h⟩
  refine (h s0 _ p0 A0 H args ws yes hr hv hk).mono ?_ (fun _ _ x => x)
  rintro v H' ⟨φ, a, A', _, h1, h2, h3⟩
  refine ⟨?_, ?_, ?_⟩
  · cases a with
    | b x =>
      have : x = true := h3
      subst this
      simpa [VR] using h1
    | _ => cases h3
  · by_cases hz : H.size = 0
    · omega
    · have h4 := h2.frm (H.size - 1) H[H.size - 1] (Array.getElem?_eq_getElem (by omega))
      have := (Array.getElem?_eq_some_iff.1 h4).1
      omega
  · intro b hb _
    have := h2.frm b H[b] (Array.getElem?_eq_getElem hb)
    rw [this, Array.getElem?_eq_getElem hb]
theorem conv_u8 {n : Nat} (h : n < 256) (k : AV → Bool) : convA .i64 (.z .u8 (Int.ofNat n)) k = k (.n n) := by
  have e : IntKind.i64.wrap (Int.ofNat n) = Int.ofNat n := wrap_i64_small _ (Int.natCast_nonneg n) (by show (n : Int) ≤ _; omega)
  show mkI .i64 (IntKind.i64.wrap (Int.ofNat n)) k = _
  rw [e]
  unfold mkI
  show frc n (fun n => ifB (Nat.beq (kindN .i64) 3) (ifB (Nat.blt n 9223372036854775808) (k (.n n)) false) (k (.z .i64 (Int.ofNat n)))) = _
  rw [frc_eq]
  have h1 : Nat.blt n 9223372036854775808 = true := Nat.ble_eq_true_of_le (by omega)
  have h2 : Nat.beq (kindN .i64) 3 = true := by kernel_rfl
  rw [h1, h2]
  rfl
theorem rem_n {n c : Nat} (h : c ≠ 0) (k : AV → Bool) : remA (.n n) (.n c) k = k (.n (n % c)) := by
  show ifB (Nat.beq c 0) false (frc (Nat.mod n c) fun s => k (.n s)) = _
  have : Nat.beq c 0 = false := by cases c with | zero => exact absurd rfl h | succ c => rfl
  rw [this, frc_eq]
  rfl
end
end Go.Run
