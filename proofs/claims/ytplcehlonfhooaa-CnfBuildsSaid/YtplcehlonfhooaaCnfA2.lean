/- A list of bools as an argument. -/
import Derived.Test.YtplcehlonfhooaaCnfA
import Derived.Test.YtplcehlonfhooaaCnfB
namespace Go.Proofs.Ytplcehlonfhooaa
open Go.ChangeShapes Go.WideShapes Go.ChangeAt Go.RowKit Go.HL
set_option maxRecDepth 100000
theorem arg_bools {H : Type} {enc : TypeId × Value → H} {W : World} {r : Reach} {b0 : Nat} {v : Value} {d : DataW H} {ps : List MemPlace}
    (hval : Value.okWide Try.prog W r b0 41 v) (hd : DataW.Trod enc Try.prog W 0 (fun _ => true) true 41 v d ps) : ∃ xs, BR W.heap v xs := by
  obtain ⟨a0, len0, cap0, rfl⟩ := okWide_slice Try.underlying41 hval
  obtain ⟨a, len, cap, e, hl, hr⟩ := (TR.of hd).slice (z := 1) Try.underlying41 (by kernel_rfl) (by omega)
  simp [Value.cells] at e
  obtain ⟨rfl, rfl, rfl⟩ := e
  have key : ∀ i, i < len0 → ∃ x : Bool, ∃ b o, a0 = some ⟨b, o, none⟩ ∧ cellH W.heap ⟨b, o + i, none⟩ = some (.bool x) := by
    intro i hi
    obtain ⟨b, o, rfl, hrow⟩ := hr (by omega)
    obtain ⟨es, hes, hc, ht⟩ := hrow i hi
    match es, hes with
    | [x0], _ =>
      obtain ⟨x, e0⟩ := TR.bool Try.underlying4 ht
      simp only [List.cons.injEq, and_true] at e0
      subst e0
      have c0 := hc 0 (by omega)
      simp at c0
      exact ⟨x, b, o, rfl, c0⟩
  obtain ⟨xs, g1, g2⟩ := list_of key
  exact ⟨xs, a0, cap0, by rw [g1], fun i hi => g2 i _ (bt_lt hi)⟩
end Go.Proofs.Ytplcehlonfhooaa
