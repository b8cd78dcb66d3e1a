/- The document's maker gives a node, and those below it, their variables and clauses. -/
import Derived.Test.YtplcehlonfhooaaCnfX
namespace Go.Proofs.Ytplcehlonfhooaa
open Go.HL
set_option maxRecDepth 10000
set_option linter.unusedSimpArgs false

theorem Qk.grow {H : Heap} {q : Nat} {lw lw' cv cv' : Value} {C C' : List Nat} (h0 : ∀ b ∈ own lw', b ∈ own lw ∨ H.size ≤ b) (h : ∀ b ∈ own cv', b ∈ own cv ∨ H.size ≤ b) (h' : ∀ b ∈ C', b ∈ C ∨ H.size ≤ b) : Grow (qB q lw cv C) (qB q lw' cv' C') H := by
  intro b hb
  simp only [qB, List.mem_cons, List.mem_append] at hb ⊢
  rcases hb with hb | (hb | hb) | hb
  · exact .inl (.inl hb)
  · exact (h0 b hb).imp (fun h => .inr (.inl (.inl h))) id
  · exact (h b hb).imp (fun h => .inr (.inl (.inr h))) id
  · exact (h' b hb).imp (fun h => .inr (.inr h)) id
section
variable {H : Heap} {q t : Nat} {lw cv lv : Value} {s : MS} {C B : List Nat} {ns : List Pr}
/-- A node more in the list. -/
theorem qpush (h : QM H q t lw cv s C) (hL : s.1.length ≤ 1000000) {n : Nat} {k : Value → Heap → Prop}
    (hk : ∀ w' H2, wr H2 ⟨q, 1, none⟩ w' = some (setH H2 ⟨q, 1, none⟩ w') → QM (setH H2 ⟨q, 1, none⟩ w') q t w' cv (s.1 ++ [n], s.2) C → Fr (qB q lw cv C) H (setH H2 ⟨q, 1, none⟩ w') → (∀ b ∈ own w', b ∈ own lw ∨ H.size ≤ b) → (∃ a c, w' = .slice a (s.1.length + 1) c) → k w' H2) :
    @appB Try.prog 26 26 lw (.slice (some ⟨H.size, 0, none⟩) 1 1) ⟨H.push (.cells #[iv n] 3)⟩ ⟨k⟩ := by
  refine app_lit1 T.el26 rfl h.vl rfl (by simp; omega) ?_
  rintro w' H2 k1 k2 k3 ⟨a2, c2, ew⟩
  have hs := h.self.lt
  have b2 := k2.blk h.self h.s1
  have q1 : q ∉ own w' := fun e => (k3 q e).elim h.s1 (fun e => by omega)
  have F3 : Fr [q] H2 (setH H2 ⟨q, 1, none⟩ w') := Fr.set (by simp)
  have hcl := h.cl
  have hvl : ∀ b ∈ own cv, b < H.size := by obtain ⟨cvs, a, _⟩ := h.vc; exact a.lt
  refine hk w' H2 (b2.wr (by simp) w') ⟨b2.set 1 w', ?_, (h.vc.frame k2 (fun b hb e => h.s3 b e hb) (fun b hb => (h.s4 b hb).2.1)).frame F3 (by intro b hb e; simp at e; subst e; exact h.s2 hb) (by intro b hb e; simp at e; exact (h.s4 b hb).2.2 e), q1, h.s2, fun b hb e => ?_, fun b hb => ⟨(h.s4 b hb).1, fun e => ?_, (h.s4 b hb).2.2⟩, fun b hb => ?_⟩ ?_ k3 ⟨a2, c2, by rw [ew]; simp⟩
  · unfold IV
    rw [List.map_append, List.map_append]
    exact k1.frame F3 (by intro b hb e; simp at e; subst e; exact q1 hb)
  · exact (k3 b hb).elim (fun h' => h.s3 b h' e) (fun h' => by have := hvl b e; omega)
  · exact (k3 b e).elim (h.s4 b hb).2.1 (fun h' => by have := hcl b hb; omega)
  · rw [size_setH]; exact Nat.lt_of_lt_of_le (hcl b hb) k2.size
  · exact (k2.mono (fun b _ hb => by simp [qB, hb])).trans (F3.mono (fun b _ hb => by simp at hb; simp [qB, hb]))
end
end Go.Proofs.Ytplcehlonfhooaa
