/- The document's maker: need. -/
import Derived.Test.YtplcehlonfhooaaCnfW
namespace Go.Proofs.Ytplcehlonfhooaa
open Go.HL
set_option maxRecDepth 10000
set_option linter.unusedSimpArgs false

theorem held_push {hl : List (Addr × Value)} {H : Heap} {o : Obj} (h : heldOK hl H) : heldOK hl (H.push o) := fun a v e => (Fr.push (F := [])).cell' (h a v e) (by simp)
/-- Three clauses, wherever they lie, are put behind the others. -/
theorem app3 {P : Program} {H K : Heap} {t bytes : Nat} {zero cv : Value} {cs : List (List Int)} {C : List Nat} {b1 b2 b3 : Nat} {x y z : List Int} {k : Value → Heap → Prop} (hT : ElT P t 26 1 bytes zero) (hz : zero.cells.size = 1) (hv : CVec H cv cs C)
    (hC : ∀ b ∈ C, b ∉ own cv) (hb : bytes ≤ 64) (hlen : cs.length ≤ 1000000000) (f1 : Fr [] H K) (k1 : Blk K b1 3 (x.map (Value.int .i64))) (k2 : Blk K b2 3 (y.map (Value.int .i64))) (k3 : Blk K b3 3 (z.map (Value.int .i64)))
    (l1 : H.size ≤ b1) (l2 : H.size ≤ b2) (l3 : H.size ≤ b3)
    (hk : ∀ v' H', CVec H' v' (cs ++ [x, y, z]) (C ++ [b1, b2, b3]) → Fr (own cv) H H' → (∀ b ∈ own v', b ∈ own cv ∨ H.size ≤ b) → (∀ b ∈ [b1, b2, b3], H.size ≤ b ∧ b < H'.size ∧ b ∉ own v') → H.size ≤ H'.size → (∃ a c, v' = .slice a (cs.length + 3) c) → k v' H') :
    @appB P t t cv (.slice (some ⟨K.size, 0, none⟩) 3 3) ⟨K.push (.cells #[.slice (some ⟨b1, 0, none⟩) x.length x.length, .slice (some ⟨b2, 0, none⟩) y.length y.length, .slice (some ⟨b3, 0, none⟩) z.length z.length] 26)⟩ ⟨k⟩ := by
  obtain ⟨cvs, a, b, c⟩ := hv
  have a1 := a.frame f1 (by simp)
  obtain ⟨xa, xl, xc, ex, hl⟩ := a.len
  refine app_lit (n := 3) (new := [.slice (some ⟨b1, 0, none⟩) x.length x.length, .slice (some ⟨b2, 0, none⟩) y.length y.length, .slice (some ⟨b3, 0, none⟩) z.length z.length]) hT hz a1 (by simp [oneC]) rfl ?_ ?_
  · intro a' l' c' e'
    rw [ex] at e'
    simp only [Value.slice.injEq] at e'
    obtain ⟨_, rfl, _⟩ := e'
    have h1 : xl ≤ 1000000000 := by omega
    have h2 : (2 * (xl + 3) + 200) * (bytes + 1) ≤ (2 * (xl + 3) + 200) * 65 := Nat.mul_le_mul_left _ (by omega)
    omega
  · intro v' H' g1 g2 g3 g4
    have lt1 := a.lt
    have ne1 : ∀ j, H.size ≤ j → j ∉ own cv := fun j hj e => by have := lt1 _ e; omega
    have s2 := g2.size
    have s1 := f1.size
    refine hk v' H' ?_ ((f1.mono (by simp)).trans g2) (fun b hb => (g3 b hb).imp id (fun h => by omega)) ?_ (by omega) ?_
    · refine CVec.push3 (H := H) (v := cv) ⟨cvs, a, b, c⟩ ((f1.mono (by simp)).trans g2) hC ?_ (g2.blk k1 (ne1 b1 l1)) (g2.blk k2 (ne1 b2 l2)) (g2.blk k3 (ne1 b3 l3))
      intro cvs' a'
      have : cvs' = cvs := by
        rcases a.ex with ⟨p1, p2⟩ | ⟨b1, l1, q1, pr1, re1, p1, p2, p3, p4, p5⟩
        · rcases a'.ex with ⟨p1', p2'⟩ | ⟨b1', l1', q1', pr1', re1', p1', _⟩
          · rw [p2, p2']
          · rw [p1] at p1'; simp at p1'
        · rcases a'.ex with ⟨p1', p2'⟩ | ⟨b1', l1', q1', pr1', re1', p1', p2', p3', p4', p5'⟩
          · rw [p1'] at p1; simp at p1
          · rw [p1] at p1'
            simp only [Value.slice.injEq, Option.some.injEq, Addr.mk.injEq] at p1'
            obtain ⟨⟨rfl, e4, _⟩, rfl, rfl⟩ := p1'
            have := (p2.inj p2').1
            rw [List.append_assoc, List.append_assoc] at this
            have h5 := List.append_inj this e4
            exact (List.append_inj h5.2 (by omega)).1.symm
      subst this
      exact g1
    · intro b hb
      simp only [List.mem_cons, List.not_mem_nil, or_false] at hb
      have q1 := k1.lt
      have q2 := k2.lt
      have q3 := k3.lt
      have : H.size ≤ b ∧ b < K.size := by omega
      exact ⟨this.1, by omega, fun e => (g3 b e).elim (ne1 b this.1) (fun h => by omega)⟩
    · obtain ⟨a', c', e'⟩ := g4 _ _ _ ex
      exact ⟨a', c', by rw [e', ← b, hl, Nat.mul_one]⟩
section
variable {H : Heap}
theorem qnew_spec {t : Nat} : CallF Try.prog 16 [hp t] H (fun r H' => Fr [] H H' ∧ ∃ q B, r = hp q ∧ Qk H' q t B ([0], [[-1]]) ∧ ∀ b ∈ B, H.size ≤ b) NoP := by
  refine callF_of Try.func16 rfl Try.ntmps16 Try.results16 (by decide) rfl ?_
  simp (disch := omega) only [go_sem, ↓cw_block]
  refine fin ?_
  have e1 : (H.push (.cells #[iv 0] 3)).size = H.size + 1 := by simp
  have e2 : ((H.push (.cells #[iv 0] 3)).push (.cells #[iv (-1)] 3)).size = H.size + 2 := by simp
  have e3 : (((H.push (.cells #[iv 0] 3)).push (.cells #[iv (-1)] 3)).push (.cells #[.slice (some ⟨(H.push (.cells #[iv 0] 3)).size, 0, none⟩) 1 1] 26)).size = H.size + 3 := by simp
  have k0 : Blk (H.push (.cells #[iv 0] 3)) H.size 3 [iv 0] := Blk.new rfl
  have k1 : Blk ((H.push (.cells #[iv 0] 3)).push (.cells #[iv (-1)] 3)) (H.size + 1) 3 [iv (-1)] := by rw [← e1]; exact Blk.new rfl
  have k2 : Blk (((H.push (.cells #[iv 0] 3)).push (.cells #[iv (-1)] 3)).push (.cells #[.slice (some ⟨(H.push (.cells #[iv 0] 3)).size, 0, none⟩) 1 1] 26)) (H.size + 2) 26 [.slice (some ⟨(H.push (.cells #[iv 0] 3)).size, 0, none⟩) 1 1] := by rw [← e2]; exact Blk.new rfl
  refine ⟨((Fr.push.push').push').push', H.size + 3, qB (H.size + 3) (.slice (some ⟨H.size, 0, none⟩) 1 1) (.slice (some ⟨H.size + 2, 0, none⟩) 1 1) [H.size + 1], ?_, ⟨_, _, _, ⟨?_, ⟨.inr ⟨H.size, 1, 1, [], [], rfl, ((k0.push _).push _).push _, rfl, rfl, by omega⟩⟩, ⟨[.slice (some ⟨H.size + 1, 0, none⟩) 1 1], ⟨.inr ⟨H.size + 2, 1, 1, [], [], rfl, ?_, rfl, rfl, by omega⟩⟩, rfl, ?_⟩, ?_, ?_, ?_, ?_, ?_⟩, rfl⟩, ?_⟩
  · unfold newPtr; rw [e3]
  · have := Blk.new (H := ((H.push (.cells #[iv 0] 3)).push (.cells #[iv (-1)] 3)).push (.cells #[.slice (some ⟨(H.push (.cells #[iv 0] 3)).size, 0, none⟩) 1 1] 26)) (t := 47) (vs := [hp t, .slice (some ⟨H.size, 0, none⟩) 1 1, .slice (some ⟨((H.push (.cells #[iv 0] 3)).push (.cells #[iv (-1)] 3)).size, 0, none⟩) 1 1]) rfl
    rw [e3] at this
    show Blk _ (H.size + 3) _ [hp t, .slice (some ⟨H.size, 0, none⟩) 1 1, .slice (some ⟨H.size + 2, 0, none⟩) 1 1]
    rw [← e2]
    exact this
  · have := k2.push (.cells #[hp t, .slice (some ⟨H.size, 0, none⟩) 1 1, .slice (some ⟨((H.push (.cells #[iv 0] 3)).push (.cells #[iv (-1)] 3)).size, 0, none⟩) 1 1] 47)
    show Blk _ (H.size + 2) _ [.slice (some ⟨H.size + 1, 0, none⟩) 1 1]
    rw [← e1]
    exact this
  · intro i c hc
    have := (List.getElem?_eq_some_iff.1 hc).1
    have hi : i = 0 := by simp at this; omega
    subst hi
    simp at hc; subst hc
    exact ⟨H.size + 1, by simp, rfl, (k1.push _).push _⟩
  · simp [own]
  · simp [own]
  · simp [own]
  · simp [own]
  · simp <;> omega
  · intro b hb
    simp [qB, own] at hb
    omega
end
end Go.Proofs.Ytplcehlonfhooaa
