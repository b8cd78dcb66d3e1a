
/- What the arguments of a law are, as the given rows lay them. -/
import Derived.Test.YtndbdehpkiimjaaGreatLift
namespace Go.HL
open Go.ChangeShapes Go.WideShapes Go.ChangeAt Go.RowKit

theorem omapM_some {α β : Type} {f : α → Option β} : ∀ {l : List α} {r : List β}, l.mapM f = some r → r.length = l.length ∧ ∀ (j : Nat) x, l[j]? = some x → ∃ y, f x = some y ∧ r[j]? = some y := by
  intro l
  induction l with
  | nil => intro r h; simp at h; subst h; simp
  | cons a l ih =>
    intro r h
    rw [List.mapM_cons] at h
    simp only [bind, Option.bind_eq_some_iff, pure, Option.some.injEq] at h
    obtain ⟨y, hy, r', hr, rfl⟩ := h
    obtain ⟨h1, h2⟩ := ih hr
    refine ⟨by simp [h1], fun j x hx => ?_⟩
    cases j with
    | zero => simp at hx; subst hx; exact ⟨y, hy, rfl⟩
    | succ j => simp at hx; simpa using h2 j x hx
theorem list_of {α : Type} {p : Nat → α → Prop} : ∀ {n : Nat}, (∀ i, i < n → ∃ x, p i x) → ∃ xs : List α, xs.length = n ∧ ∀ i x, xs[i]? = some x → p i x := by
  intro n
  induction n with
  | zero => intro _; exact ⟨[], rfl, by simp⟩
  | succ n ih =>
    intro h
    obtain ⟨xs, h1, h2⟩ := ih fun i hi => h i (by omega)
    obtain ⟨x, hx⟩ := h n (by omega)
    refine ⟨xs ++ [x], by simp [h1], fun i y hy => ?_⟩
    rw [List.getElem?_append] at hy
    split at hy
    · exact h2 i y hy
    · rename_i hi
      have : i = n := by
        have := (List.getElem?_eq_some_iff.1 hy).1
        simp at this; omega
      subst this
      simp [h1] at hy
      exact hy ▸ hx

section
variable {H : Type} {enc : TypeId × Value → H} {P : Program} {W : World}
abbrev TR (enc : TypeId × Value → H) (P : Program) (W : World) (t : TypeId) (cs : List Value) : Prop := ∃ fuel x, DataW.trod enc P W 0 (fun _ => true) true fuel t cs = some x
theorem TR.int {t : TypeId} {k : IntKind} {cs : List Value} (ht : P.underlying t = some (.int k)) (h : TR enc P W t cs) : ∃ n, cs = [.int k n] ∧ (Lit.int k n).wf = true := by
  obtain ⟨fuel, x, h⟩ := h
  cases fuel with
  | zero => simp [DataW.trod] at h
  | succ fuel =>
    unfold DataW.trod at h
    rw [ht] at h
    split at h <;> simp_all
theorem TR.bool {t : TypeId} {cs : List Value} (ht : P.underlying t = some .bool) (h : TR enc P W t cs) : ∃ b, cs = [.bool b] := by
  obtain ⟨fuel, x, h⟩ := h
  cases fuel with
  | zero => simp [DataW.trod] at h
  | succ fuel =>
    unfold DataW.trod at h
    rw [ht] at h
    split at h <;> simp_all
theorem TR.string {t : TypeId} {cs : List Value} (ht : P.underlying t = some .string) (h : TR enc P W t cs) : ∃ s, cs = [.string s] ∧ s.size ≤ maxLen := by
  obtain ⟨fuel, x, h⟩ := h
  cases fuel with
  | zero => simp [DataW.trod] at h
  | succ fuel =>
    unfold DataW.trod at h
    rw [ht] at h
    split at h <;> simp_all
theorem TR.struct {t : TypeId} {fs : Array Field} {cs : List Value} (ht : P.underlying t = some (.struct fs)) (h : TR enc P W t cs) :
    cs.length = P.cellsOf t ∧ ∀ f ∈ fs.toList, TR enc P W f.type ((cs.drop f.offset).take (P.cellsOf f.type)) := by
  obtain ⟨fuel, x, h⟩ := h
  cases fuel with
  | zero => simp [DataW.trod] at h
  | succ fuel =>
    unfold DataW.trod at h
    rw [ht] at h
    split at h <;> first | (simp at *; done) | skip
    rename_i fs' hfs
    simp only [Option.some.injEq, TypeDesc.struct.injEq] at hfs
    subst hfs
    split at h
    · rename_i h1
      simp only [Option.map_eq_some_iff] at h
      obtain ⟨y, hy, _⟩ := h
      refine ⟨h1, fun f hf => ?_⟩
      obtain ⟨j, hj⟩ := List.getElem?_of_mem hf
      obtain ⟨z, hz, _⟩ := (omapM_some hy).2 j f hj
      exact ⟨fuel, z, hz⟩
    · simp at h
/-- A slice: it is nil, or its elements are laid one behind the other. -/
theorem TR.slice {t e : TypeId} {z : Nat} {cs : List Value} (ht : P.underlying t = some (.slice e)) (hz : P.cellsOf e = z) (hz0 : 0 < z) (h : TR enc P W t cs) :
    ∃ a len cap, cs = [.slice a len cap] ∧ len ≤ maxLen ∧ (0 < len → ∃ b o, a = some ⟨b, o, none⟩ ∧ ∀ i, i < len → ∃ es, es.length = z ∧ (∀ j, j < z → cellH W.heap ⟨b, o + i * z + j, none⟩ = es[j]?) ∧ TR enc P W e es) := by
  obtain ⟨fuel, x, h⟩ := h
  cases fuel with
  | zero => simp [DataW.trod] at h
  | succ fuel =>
    unfold DataW.trod at h
    rw [ht] at h
    split at h <;> first | (simp at *; done) | skip
    · exact ⟨none, 0, 0, rfl, by simp, by omega⟩
    · rename_i e' a len cap he
      simp only [Option.some.injEq, TypeDesc.slice.injEq] at he
      subst he
      simp only at h
      split at h
      · rename_i hb
        simp only [Option.bind_eq_some_iff] at h
        obtain ⟨elems, hel, _⟩ := h
        refine ⟨some a, len, cap, rfl, by omega, fun hl => ?_⟩
        have hrow : ∀ i, i < len → ∃ es, es.length = z ∧ (∀ j, j < z → W.cell? ((a.add (i * z)).add j) = es[j]?) ∧ TR enc P W e es := by
          intro i hi
          obtain ⟨y, hy, _⟩ := (omapM_some hel).2 i i (by simp [hi])
          simp only [Option.bind_eq_some_iff] at hy
          obtain ⟨es, hes, hy⟩ := hy
          rw [hz] at hes
          unfold World.cells? at hes
          split at hes
          · obtain ⟨g1, g2⟩ := omapM_some hes
            simp at g1
            refine ⟨es, g1, fun j hj => ?_, fuel, y, hy⟩
            obtain ⟨u, hu, hr⟩ := g2 j j (by simp [hj])
            rw [hu, hr]
          · simp at hes
        have ha : a = ⟨a.block, a.off, none⟩ := by
          obtain ⟨es, g1, g2, _⟩ := hrow 0 hl
          have := g2 0 hz0
          cases a with
          | mk b o s =>
            cases s with
            | none => rfl
            | some q =>
              exfalso
              have h0 : es[0]? = some es[0] := by simp
              rw [h0] at this
              simp [Addr.add, World.cell?] at this
              split at this <;> simp at this
        refine ⟨a.block, a.off, by rw [← ha], fun i hi => ?_⟩
        obtain ⟨es, g1, g2, g3⟩ := hrow i hi
        refine ⟨es, g1, fun j hj => ?_, g3⟩
        rw [← g2 j hj, ha, addr_add, addr_add]
        rfl
      · simp at h
theorem TR.of {t : TypeId} {v : Value} {d : DataW H} {ps : List MemPlace} (h : DataW.Trod enc P W 0 (fun _ => true) true t v d ps) : TR enc P W t v.cells.toList := by
  obtain ⟨fuel, h⟩ := h
  exact ⟨fuel, _, h⟩
end
end Go.HL
