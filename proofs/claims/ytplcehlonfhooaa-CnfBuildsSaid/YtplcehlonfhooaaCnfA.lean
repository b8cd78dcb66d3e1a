/- The arguments of the laws on clauses, as the row lays them. -/
import Derived.Test.YtplcehlonfhooaaCnfR
import Derived.Test.YtplcehlonfhooaaArg
namespace Go.Proofs.Ytplcehlonfhooaa
open Go.ChangeShapes Go.WideShapes Go.ChangeAt Go.RowKit Go.HL
set_option maxRecDepth 100000
theorem wf64 {n : Int} (h : (Lit.int .i64 n).wf = true) : -9223372036854775808 ≤ n ∧ n ≤ 9223372036854775807 := by simpa [Lit.wf, IntKind.min, IntKind.max, IntKind.signed, IntKind.bits] using h
theorem u8s_rng {H : Heap} {v : Value} {zs : List Int} (h : ArgInts H .u8 v zs) : ∀ i, i < zs.length → 0 ≤ nt zs i ∧ nt zs i ≤ 255 := by
  intro i hi
  have hm : nt zs i ∈ zs := List.mem_of_getElem? (nt_lt hi)
  have := h.rng _ hm
  simpa [Lit.wf, IntKind.min, IntKind.max, IntKind.signed, IntKind.bits] using this
theorem arg_acts {H : Type} {enc : TypeId × Value → H} {W : World} {r : Reach} {b0 : Nat} {v : Value} {d : DataW H} {ps : List MemPlace}
    (hval : Value.okWide Try.prog W r b0 22 v) (hd : DataW.Trod enc Try.prog W 0 (fun _ => true) true 22 v d ps) : ∃ rows, ArgActs W.heap v rows := by
  obtain ⟨a0, len0, cap0, rfl⟩ := okWide_slice Try.underlying22 hval
  obtain ⟨a, len, cap, e, hl, hr⟩ := (TR.of hd).slice (z := 4) Try.underlying22 (by kernel_rfl) (by omega)
  simp [Value.cells] at e
  obtain ⟨rfl, rfl, rfl⟩ := e
  have key : ∀ i, i < len0 → ∃ x : Int × Int × Int, (∃ b o, a0 = some ⟨b, o, none⟩ ∧ cellH W.heap ⟨b, o + i * 4, none⟩ = some (iv x.1) ∧ cellH W.heap ⟨b, o + i * 4 + 1, none⟩ = some (iv x.2.1) ∧ cellH W.heap ⟨b, o + i * 4 + 2, none⟩ = some (iv x.2.2)) ∧
      x.2.1 ≤ 9223372036854775807 ∧ x.2.2 ≤ 9223372036854775807 := by
    intro i hi
    obtain ⟨b, o, rfl, hrow⟩ := hr (by omega)
    obtain ⟨es, hes, hc, ht⟩ := hrow i hi
    obtain ⟨h1, h2⟩ := ht.struct Try.underlying39
    match es, hes with
    | [x0, x1, x2, x3], _ =>
      obtain ⟨n0, e0, w0⟩ := TR.int (k := .i64) Try.underlying3 (h2 _ (by simp; exact .inl rfl))
      obtain ⟨n1, e1, w1⟩ := TR.int (k := .i64) Try.underlying3 (h2 _ (by simp; exact .inr (.inl rfl)))
      obtain ⟨n2, e2, w2⟩ := TR.int (k := .i64) Try.underlying3 (h2 _ (by simp; exact .inr (.inr (.inl rfl))))
      have s0 : Try.prog.cellsOf 3 = 1 := by kernel_rfl
      simp only [s0, List.drop_zero, List.drop_succ_cons, List.take_succ_cons, List.take_zero, List.cons.injEq, and_true] at e0 e1 e2
      subst e0 e1 e2
      have c0 := hc 0 (by omega)
      have c1 := hc 1 (by omega)
      have c2 := hc 2 (by omega)
      simp at c0 c1 c2
      exact ⟨(n0, n1, n2), ⟨b, o, rfl, c0, c1, c2⟩, (wf64 w1).2, (wf64 w2).2⟩
  obtain ⟨rows, g1, g2⟩ := list_of key
  exact ⟨rows, a0, cap0, by rw [g1], fun i x hx => g2 i x hx⟩
end Go.Proofs.Ytplcehlonfhooaa
