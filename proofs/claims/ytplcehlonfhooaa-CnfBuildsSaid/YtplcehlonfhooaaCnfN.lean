/- A maker gives a node, and those below it, their variables and clauses. -/
import Derived.Test.YtplcehlonfhooaaCnfK
namespace Go.Proofs.Ytplcehlonfhooaa
open Go.HL
set_option maxRecDepth 10000
set_option linter.unusedSimpArgs false

theorem Vec.pop1 {H : Heap} {e : Nat} {a : Option Addr} {l c : Nat} {vs : List Value} {u : Value} (h : Vec H e 1 (.slice a l c) (vs ++ [u])) : Vec H e 1 (.slice a vs.length c) vs := by
  rcases h.ex with ⟨e1, e2⟩ | ⟨b, len, cap, pre, rest, e1, hb, hl, hr, hle⟩
  · simp at e2
  · simp only [Value.slice.injEq] at e1
    obtain ⟨rfl, rfl, rfl⟩ := e1
    simp at hl
    refine ⟨.inr ⟨b, vs.length, c, pre, u :: rest, rfl, by simpa using hb, by simp, ?_, by omega⟩⟩
    simp at hr ⊢
    omega
theorem CVec.push3 {H H' : Heap} {v v' : Value} {cs : List (List Int)} {C : List Nat} {b1 b2 b3 : Nat} {x y z : List Int} (h : CVec H v cs C) (hf : Fr (own v) H H') (hC : ∀ b ∈ C, b ∉ own v)
    (hv : ∀ cvs, Vec H 26 1 v cvs → Vec H' 26 1 v' (cvs ++ [.slice (some ⟨b1, 0, none⟩) x.length x.length, .slice (some ⟨b2, 0, none⟩) y.length y.length, .slice (some ⟨b3, 0, none⟩) z.length z.length]))
    (h1 : Blk H' b1 3 (x.map (Value.int .i64))) (h2 : Blk H' b2 3 (y.map (Value.int .i64))) (h3 : Blk H' b3 3 (z.map (Value.int .i64))) : CVec H' v' (cs ++ [x, y, z]) (C ++ [b1, b2, b3]) := by
  obtain ⟨cvs, a, b, c⟩ := h
  refine ⟨_, hv cvs a, by simp [b], fun i q hq => ?_⟩
  rcases Nat.lt_or_ge i cs.length with hi | hi
  · rw [List.getElem?_append_left hi] at hq
    obtain ⟨bb, q1, q2, q3⟩ := c i q hq
    exact ⟨bb, by simp [q1], by rw [List.getElem?_append_left (by omega)]; exact q2, hf.blk q3 (hC bb q1)⟩
  · rw [List.getElem?_append_right hi] at hq
    rw [List.getElem?_append_right (by omega), b]
    obtain ⟨j, hj⟩ : ∃ j, i - cs.length = j := ⟨_, rfl⟩
    rw [hj] at hq ⊢
    match j, hq with
    | 0, hq => simp at hq; subst hq; exact ⟨b1, by simp, rfl, h1⟩
    | 1, hq => simp at hq; subst hq; exact ⟨b2, by simp, rfl, h2⟩
    | 2, hq => simp at hq; subst hq; exact ⟨b3, by simp, rfl, h3⟩
    | j + 3, hq => simp at hq

/-- The clauses of an and are put behind the others. -/
theorem clauses3 {P : Program} {H : Heap} {t e bytes : Nat} {zero cv : Value} {cs : List (List Int)} {C : List Nat} {x y z : List Int} {k : Value → Heap → Prop} (hT : ElT P t 26 1 bytes zero) (hz : zero.cells.size = 1) (he : e = 3) (hv : CVec H cv cs C)
    (hC : ∀ b ∈ C, b ∉ own cv) (hb : bytes ≤ 64) (hlen : cs.length ≤ 1000000000)
    (hk : ∀ v' H', CVec H' v' (cs ++ [x, y, z]) (C ++ [H.size, H.size + 1, H.size + 2]) → Fr (own cv) H H' → (∀ b ∈ own v', b ∈ own cv ∨ H.size + 3 ≤ b) → H.size + 3 ≤ H'.size → (∃ a c, v' = .slice a (cs.length + 3) c) → k v' H') :
    @appB P t t cv (.slice (some ⟨(((H.push (.cells (x.map (Value.int .i64)).toArray e)).push (.cells (y.map (Value.int .i64)).toArray e)).push (.cells (z.map (Value.int .i64)).toArray e)).size, 0, none⟩) 3 3)
      ⟨(((H.push (.cells (x.map (Value.int .i64)).toArray e)).push (.cells (y.map (Value.int .i64)).toArray e)).push (.cells (z.map (Value.int .i64)).toArray e)).push (.cells #[.slice (some ⟨H.size, 0, none⟩) x.length x.length, .slice (some ⟨(H.push (.cells (x.map (Value.int .i64)).toArray e)).size, 0, none⟩) y.length y.length, .slice (some ⟨((H.push (.cells (x.map (Value.int .i64)).toArray e)).push (.cells (y.map (Value.int .i64)).toArray e)).size, 0, none⟩) z.length z.length] 26)⟩ ⟨k⟩ := by
  subst he
  have e1 : (H.push (.cells (x.map (Value.int .i64)).toArray 3)).size = H.size + 1 := by simp
  have e2 : ((H.push (.cells (x.map (Value.int .i64)).toArray 3)).push (.cells (y.map (Value.int .i64)).toArray 3)).size = H.size + 2 := by simp
  have k1 : Blk (((H.push (.cells (x.map (Value.int .i64)).toArray 3)).push (.cells (y.map (Value.int .i64)).toArray 3)).push (.cells (z.map (Value.int .i64)).toArray 3)) H.size 3 (x.map (Value.int .i64)) := ((Blk.new rfl).push _).push _
  have k2 : Blk (((H.push (.cells (x.map (Value.int .i64)).toArray 3)).push (.cells (y.map (Value.int .i64)).toArray 3)).push (.cells (z.map (Value.int .i64)).toArray 3)) (H.size + 1) 3 (y.map (Value.int .i64)) := by
    rw [← e1]; exact (Blk.new rfl).push _
  have k3 : Blk (((H.push (.cells (x.map (Value.int .i64)).toArray 3)).push (.cells (y.map (Value.int .i64)).toArray 3)).push (.cells (z.map (Value.int .i64)).toArray 3)) (H.size + 2) 3 (z.map (Value.int .i64)) := by
    rw [← e2]; exact Blk.new rfl
  rw [e1, e2]
  have f1 : Fr [] H (((H.push (.cells (x.map (Value.int .i64)).toArray 3)).push (.cells (y.map (Value.int .i64)).toArray 3)).push (.cells (z.map (Value.int .i64)).toArray 3)) := (Fr.push.push').push'
  have e3 : (((H.push (.cells (x.map (Value.int .i64)).toArray 3)).push (.cells (y.map (Value.int .i64)).toArray 3)).push (.cells (z.map (Value.int .i64)).toArray 3)).size = H.size + 3 := by simp
  generalize ((H.push (.cells (x.map (Value.int .i64)).toArray 3)).push (.cells (y.map (Value.int .i64)).toArray 3)).push (.cells (z.map (Value.int .i64)).toArray 3) = H1 at k1 k2 k3 f1 e3 ⊢
  obtain ⟨cvs, a, b, c⟩ := hv
  have a1 := a.frame f1 (by simp)
  obtain ⟨xa, xl, xc, ex, hl⟩ := a.len
  refine app_lit (n := 3) (new := [.slice (some ⟨H.size, 0, none⟩) x.length x.length, .slice (some ⟨H.size + 1, 0, none⟩) y.length y.length, .slice (some ⟨H.size + 2, 0, none⟩) z.length z.length]) hT hz a1 (by simp [oneC]) rfl ?_ ?_
  · intro a' l' c' e'
    rw [ex] at e'
    simp only [Value.slice.injEq] at e'
    obtain ⟨_, rfl, _⟩ := e'
    have h1 : xl ≤ 1000000000 := by omega
    have h2 : (2 * (xl + 3) + 200) * (bytes + 1) ≤ (2 * (xl + 3) + 200) * 65 := Nat.mul_le_mul_left _ (by omega)
    omega
  · intro v' H' g1 g2 g3 g4
    have lt1 := a.lt
    have ne1 : ∀ j, j < 3 → H.size + j ∉ own cv := fun j _ e => by have := lt1 _ e; omega
    have s2 := g2.size
    refine hk v' H' ?_ ((f1.mono (by simp)).trans g2) ?_ (by omega) ?_
    · refine CVec.push3 (H := H) (v := cv) ⟨cvs, a, b, c⟩ ((f1.mono (by simp)).trans g2) hC ?_ (g2.blk k1 (ne1 0 (by omega))) (g2.blk k2 (ne1 1 (by omega))) (g2.blk k3 (ne1 2 (by omega)))
      intro cvs' a'
      have : cvs' = cvs := by
        rcases a.ex with ⟨p1, p2⟩ | ⟨b1, l1, q1, pr1, re1, p1, p2, p3, p4, p5⟩
        · rcases a'.ex with ⟨p1', p2'⟩ | ⟨b1', l1', q1', pr1', re1', p1', _⟩
          · rw [p2, p2']
          · rw [p1] at p1'; simp at p1'
        · rcases a'.ex with ⟨p1', p2'⟩ | ⟨b1', l1', q1', pr1', re1', p1', p2', p3', p4', p5'⟩
          · rw [p1'] at p1; simp at p1
          · rw [p1] at p1'
            simp only [Value.slice.injEq, Option.some.injEq, Addr.mk.injEq] at p1'
            obtain ⟨⟨rfl, e4, _⟩, rfl, rfl⟩ := p1'
            have := (p2.inj p2').1
            rw [List.append_assoc, List.append_assoc] at this
            have h5 := List.append_inj this e4
            exact (List.append_inj h5.2 (by omega)).1.symm
      subst this
      exact g1
    · intro b hb
      exact (g3 b hb).imp id (fun h => by omega)
    · obtain ⟨a', c', e'⟩ := g4 _ _ _ ex
      exact ⟨a', c', by rw [e', ← b, hl, Nat.mul_one]⟩
end Go.Proofs.Ytplcehlonfhooaa
