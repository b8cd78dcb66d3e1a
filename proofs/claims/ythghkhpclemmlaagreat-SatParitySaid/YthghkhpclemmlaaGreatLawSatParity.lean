
/- Proved: for every input the law SatParity returns true, and its arguments read as they did. No condition. -/
import Derived.Test.YthghkhpclemmlaaGreatL20
import Derived.Test.YthghkhpclemmlaaGreatL05
namespace Go.Proofs.YthghkhpclemmlaaGreat.satParity
open Go.ChangeShapes Go.WideShapes Go.ChangeAt Go.RowKit Go.HL
set_option linter.unusedVariables false

theorem own : ownKnob Tryz.prog.godebug = none := by kernel_rfl
theorem laidOut : laidOutB Tryz.prog = true := by kernel_rfl

set_option maxRecDepth 100000 in
theorem lifted (os : Os) (started : os.Started) (H : Type) (enc : TypeId × Value → H) :
    ReturnsInHanded {} Tryz.checked os 3 .any (Rows.satParitySpec.pre6 enc Tryz.prog Tryz.f3 Rows.satParityRow.domain false) (Rows.satParitySpec.post enc Tryz.prog Tryz.f3 false true false false) := by
  refine returnsInHanded_of_change (C := Tryz.checked) own started (by kernel_rfl) Tryz.func3
    (ChangeSpec.witness6 (enc := enc) (C := Tryz.checked) false ⟨#[], #[.slice none 0 0, .agg #[.bool false, .bool false]], []⟩ 8 (by kernel_rfl) (by kernel_rfl) (by kernel_rfl) (by kernel_rfl)) ?_
  intro W base args ds gs before hval0 hW _ _
  have hval : ∀ (j : Nat) t v, Tryz.f3.params[j]? = some t → args[j]? = some v → Value.okWide Tryz.prog W .any base t v := hval0
  have hW' := hW
  obtain ⟨p, q, hA0, hV, rfl, hfz, hnd⟩ := hW
  have hA : DataW.TrodAll enc Tryz.prog W 0 (fun _ => true) true Tryz.f3.params.toList args.toList ds p := hA0
  rw [Tryz.params3] at hA hval
  obtain ⟨v0, v1, d0, d1, p0, p1, rfl, rfl, rfl, t0, t1⟩ := trodAll_two hA
  obtain ⟨rfl, rfl⟩ := trodVars_none hV
  obtain ⟨a0, xs0, cap0, rfl, h0, hl0⟩ := arg_rb (hval 0 22 v0 rfl rfl) t0
  obtain ⟨n1, m1, rfl⟩ := arg_two (hval 1 23 v1 rfl rfl) t1
  have hcall := hcalls_of_callF Tryz.func3 rfl (by decide) (satParity_spec (c := cap0) (e0 := n1) (e1 := m1) h0 hl0)
  refine (calls_of_hcalls hcall (R := fun W' => Below W.heap.size W W') (fun W' hb => hb)).mono ?_
  rintro e W' ⟨v, rfl, rfl, hb⟩
  exact ⟨_, rfl, law_post laidOut (by rw [Tryz.params3]; intro t ht; simp at ht; rcases ht with rfl | rfl <;> exact ⟨by kernel_rfl, of_decide_eq_true (by kernel_rfl)⟩) (tb := 4) (by kernel_rfl) Tryz.underlying4 rfl rfl rfl rfl hW' hb⟩

theorem proved : Rows.SatParitySaid :=
  OpenClaim.holds_of_wide 3 Tryz.f3 rfl rfl rfl rfl rfl rfl rfl ⟨rfl, rfl, rfl, rfl, rfl⟩ rfl rfl rfl rfl rfl (by kernel_rfl) Tryz.func3 (by kernel_rfl)
    (of_decide_eq_true (by kernel_rfl)) (by unfold Func.isWrapper; first | (rw [if_pos (by decide +kernel)]; kernel_rfl) | (rw [if_neg (by decide +kernel)]; exact ⟨rfl, rfl⟩))
    (fun os started H enc _ => lifted os started H enc)
#print axioms proved
end Go.Proofs.YthghkhpclemmlaaGreat.satParity
