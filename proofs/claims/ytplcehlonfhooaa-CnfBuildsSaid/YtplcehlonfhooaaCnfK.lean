/- Makers in memory. -/
import Derived.Test.YtplcehlonfhooaaCnfM
namespace Go.Proofs.Ytplcehlonfhooaa
open Go.HL
set_option maxRecDepth 10000
set_option linter.unusedSimpArgs false

theorem nodup_len : ∀ (N : Nat) (L : List Nat), L.Nodup → (∀ x ∈ L, x < N) → L.length ≤ N := by
  intro N
  induction N with
  | zero => intro L _ h; cases L with
    | nil => simp
    | cons a L => exact absurd (h a (by simp)) (by omega)
  | succ N ih =>
    intro L hn h
    have := ih (L.erase N) (hn.erase N) (fun x hx => by
      rw [hn.mem_erase_iff] at hx
      have := h x hx.2
      omega)
    rw [List.length_erase] at this
    split at this <;> omega

/-- A list of clauses in memory; the clauses lie in the blocks C. -/
def CVec (H : Heap) (v : Value) (cs : List (List Int)) (C : List Nat) : Prop := ∃ cvs : List Value, Vec H 26 1 v cvs ∧ cvs.length = cs.length ∧
  ∀ (i : Nat) c, cs[i]? = some c → ∃ b, b ∈ C ∧ cvs[i]? = some (.slice (some ⟨b, 0, none⟩) c.length c.length) ∧ Blk H b 3 (c.map (Value.int .i64))
theorem CVec.frame {H H' : Heap} {v : Value} {cs : List (List Int)} {C F : List Nat} (h : CVec H v cs C) (hf : Fr F H H') (h1 : ∀ b ∈ own v, b ∉ F) (h2 : ∀ b ∈ C, b ∉ F) : CVec H' v cs C := by
  obtain ⟨cvs, a, b, c⟩ := h
  refine ⟨cvs, a.frame hf h1, b, fun i x hx => ?_⟩
  obtain ⟨bb, q1, q2, q3⟩ := c i x hx
  exact ⟨bb, q1, q2, hf.blk q3 (h2 bb q1)⟩
theorem CVec.form {H : Heap} {v : Value} {cs : List (List Int)} {C : List Nat} (h : CVec H v cs C) : ∃ a c, v = .slice a cs.length c := by
  obtain ⟨cvs, a, b, c⟩ := h
  obtain ⟨x, l, y, rfl, hl⟩ := a.len
  exact ⟨x, y, by rw [← b, hl, Nat.mul_one]⟩
structure MM (H : Heap) (m r : Nat) (cv : Value) (g : Nat) (s : MS) (C : List Nat) : Prop where
  self : Blk H m 60 [hp g, .map (some r), cv]
  mp : MapR H r ((kvs s.1).map ivp)
  vc : CVec H cv s.2 C
  s1 : m ∉ own cv
  s2 : r ∉ own cv ∧ r ≠ m
  s3 : ∀ b ∈ C, b ∉ own cv ∧ b ≠ m ∧ b ≠ r
  cl : ∀ b ∈ C, b < H.size
def mB (m r : Nat) (cv : Value) (C : List Nat) : List Nat := m :: r :: (own cv ++ C)
def Mk (H : Heap) (m g : Nat) (B : List Nat) (s : MS) : Prop := ∃ r cv C, MM H m r cv g s C ∧ B = mB m r cv C
section
variable {H : Heap} {m r g : Nat} {cv : Value} {s : MS} {C B : List Nat}
theorem MM.c0 (h : MM H m r cv g s C) : cellH H ⟨m, 0, none⟩ = some (hp g) := h.self.cell 0
theorem MM.c1 (h : MM H m r cv g s C) : cellH H ⟨m, 1, none⟩ = some (.map (some r)) := h.self.cell 1
theorem MM.c2 (h : MM H m r cv g s C) : cellH H ⟨m, 2, none⟩ = some cv := h.self.cell 2
theorem MM.lt (h : MM H m r cv g s C) : ∀ b ∈ mB m r cv C, b < H.size := by
  intro b hb
  simp only [mB, List.mem_cons, List.mem_append] at hb
  rcases hb with rfl | rfl | hb | hb
  · exact h.self.lt
  · exact h.mp.lt
  · obtain ⟨cvs, a, _⟩ := h.vc; exact a.lt b hb
  · exact h.cl b hb
theorem MM.frame {H' : Heap} {F : List Nat} (h : MM H m r cv g s C) (hf : Fr F H H') (hd : ∀ b ∈ mB m r cv C, b ∉ F) : MM H' m r cv g s C :=
  ⟨hf.blk h.self (hd m (by simp [mB])), h.mp.frame hf (hd r (by simp [mB])), h.vc.frame hf (fun b hb => hd b (by simp [mB, hb])) (fun b hb => hd b (by simp [mB, hb])), h.s1, h.s2, h.s3, fun b hb => Nat.lt_of_lt_of_le (h.cl b hb) hf.size⟩
theorem Mk.frame {H' : Heap} {F : List Nat} (h : Mk H m g B s) (hf : Fr F H H') (hd : ∀ b ∈ B, b ∉ F) : Mk H' m g B s := by
  obtain ⟨r, cv, C, h1, rfl⟩ := h
  exact ⟨r, cv, C, h1.frame hf hd, rfl⟩
theorem Mk.lt (h : Mk H m g B s) : ∀ b ∈ B, b < H.size := by
  obtain ⟨r, cv, C, h1, rfl⟩ := h
  exact h1.lt
theorem MM.look (h : MM H m r cv g s C) (n : Nat) : qrun Try.prog (Instr.lookup 58 (.map (some r)) (iv n) false) H = some (iv (varOf s.1 n)) := by
  rw [look_ints Try.underlying58 Try.underlying3 T.zero3 h.mp n false, mget_kvs]
  by_cases hn : n ∈ s.1
  · rw [if_pos hn]; rfl
  · rw [if_neg hn, varOf_none hn]; rfl

theorem varOf_rng {L : List Nat} {n : Nat} : 0 ≤ varOf L n ∧ varOf L n ≤ L.length := by
  by_cases h : n ∈ L
  · have := varOf_pos h; omega
  · rw [varOf_none h]; omega
theorem lit_spec (h : Mk H m g B s) (hL : s.1.length ≤ 1000000) {e : Nat} (he : (e : Int) ≤ 9223372036854775807) : CallF Try.prog 32 [hp m, iv e] H (fun v H' => H = H' ∧ v = iv (litM s.1 e)) NoP := by
  obtain ⟨r, cv, C, h, rfl⟩ := h
  have c1 := h.c1
  have lq := h.look (e / 2)
  have e2 : (e : Int) / 2 = ((e / 2 : Nat) : Int) := by omega
  have hv := varOf_rng (L := s.1) (n := e / 2)
  unfold litM
  refine callF_of Try.func32 rfl Try.ntmps32 Try.results32 (by decide) rfl ?_
  by_cases ho : e % 2 = 1
  · rw [if_pos ho]
    simp (disch := omega) only [go_sem, ↓cw_block, c1, e2, lq]
    exact fin ⟨rfl, rfl⟩
  · rw [if_neg ho]
    simp (disch := omega) only [go_sem, ↓cw_block, c1, e2, lq]
    exact fin ⟨rfl, rfl⟩
theorem vars_spec (h : Mk H m g B s) : CallF Try.prog 11 [hp m] H (fun v H' => H = H' ∧ v = iv s.1.length) NoP := by
  obtain ⟨r, cv, C, h, rfl⟩ := h
  have c1 := h.c1
  have hl := len_map (P := Try.prog) Try.underlying58 h.mp
  rw [List.length_map, kvs_len] at hl
  refine callF_of Try.func11 rfl Try.ntmps11 Try.results11 (by decide) rfl ?_
  simp (disch := omega) only [go_sem, ↓cw_block, c1, hl]
  exact fin ⟨rfl, rfl⟩
theorem take_spec (h : Mk H m g B s) : CallF Try.prog 10 [hp m] H (fun v H' => ∃ C, CVec H' v s.2 C ∧ (∀ b ∈ own v ++ C, b ∈ B) ∧ Fr B H H' ∧ ∃ B', Mk H' m g B' (s.1, []) ∧ (∀ b ∈ B', b ∈ B) ∧ (∀ b ∈ own v ++ C, b ∉ B')) NoP := by
  obtain ⟨r, cv, C, h, rfl⟩ := h
  have c2 := h.c2
  obtain ⟨a, c, ev⟩ := h.vc.form
  subst ev
  have w := h.self.wr (i := 2) (by simp) (.slice none 0 0)
  have b3 := h.self.set 2 (.slice none 0 0)
  have F : Fr [m] H (setH H ⟨m, 2, none⟩ (.slice none 0 0)) := Fr.set (by simp)
  refine callF_of Try.func10 rfl Try.ntmps10 Try.results10 (by decide) rfl ?_
  simp (disch := omega) only [go_sem, ↓cw_block, c2, w]
  refine fin ⟨C, h.vc.frame F ?_ ?_, ?_, F.mono (fun b _ hb => by simp at hb; simp [mB, hb]), [m, r], ⟨r, .slice none 0 0, [], ⟨b3, h.mp.frame F (by simp; exact h.s2.2), ⟨[], Vec.nil, rfl, by simp⟩, by simp [own], ⟨by simp [own], h.s2.2⟩, by simp, by simp⟩, by simp [mB, own]⟩, by simp [mB], ?_⟩
  · intro b hb e; simp at e; subst e; exact h.s1 hb
  · intro b hb e; simp at e; exact (h.s3 b hb).2.1 e
  · intro b hb; simp only [mB, List.mem_cons]; exact .inr (.inr hb)
  · intro b hb e
    simp only [List.mem_append] at hb
    simp only [List.mem_cons, List.not_mem_nil, or_false] at e
    rcases hb with hb | hb
    · rcases e with rfl | rfl
      · exact h.s1 hb
      · exact h.s2.1 hb
    · have := h.s3 b hb
      omega
theorem name_spec (h : MM H m r cv g s C) (hL : s.1.length ≤ 1000000) {n : Nat} (hn : n ∉ s.1) : CallF Try.prog 39 [hp m, iv n] H (fun v H' => v = iv (s.1.length + 1 : Nat) ∧ MM H' m r cv g (s.1 ++ [n], s.2) C ∧ Fr [r] H H') NoP := by
  have c1 := h.c1
  have hl := len_map (P := Try.prog) Try.underlying58 h.mp
  rw [List.length_map, kvs_len] at hl
  have e1 : (s.1.length : Int) + 1 = ((s.1.length + 1 : Nat) : Int) := by omega
  refine callF_of Try.func39 rfl Try.ntmps39 Try.results39 (by decide) rfl ?_
  simp (disch := omega) only [go_sem, ↓cw_block, c1, hl, e1]
  refine put_ints Try.underlying58 Try.underlying3 h.mp (by rw [mget_kvs, if_neg hn]) ?_
  intro H2 m2 f2
  simp (disch := omega) only [go_sem, ↓cw_block]
  refine fin ⟨rfl, ⟨f2.blk h.self (by simp; exact h.s2.2.symm), ?_, h.vc.frame f2 ?_ ?_, h.s1, h.s2, h.s3, fun b hb => Nat.lt_of_lt_of_le (h.cl b hb) f2.size⟩, f2⟩
  · rw [kvs_append, List.map_append]
    rw [← e1] at m2
    exact m2
  · intro b hb e; simp at e; subst e; exact h.s2.1 hb
  · intro b hb e; simp at e; exact (h.s3 b hb).2.2 e
end
end Go.Proofs.Ytplcehlonfhooaa
