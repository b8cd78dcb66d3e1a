/- The document's maker in memory. -/
import Derived.Test.YtplcehlonfhooaaCnfV
namespace Go.Proofs.Ytplcehlonfhooaa
open Go.HL
set_option maxRecDepth 10000
set_option linter.unusedSimpArgs false

structure QM (H : Heap) (q t : Nat) (lw cv : Value) (s : MS) (C : List Nat) : Prop where
  self : Blk H q 47 [hp t, lw, cv]
  vl : IV H 3 lw (s.1.map Int.ofNat)
  vc : CVec H cv s.2 C
  s1 : q ∉ own lw
  s2 : q ∉ own cv
  s3 : ∀ b ∈ own lw, b ∉ own cv
  s4 : ∀ b ∈ C, b ∉ own cv ∧ b ∉ own lw ∧ b ≠ q
  cl : ∀ b ∈ C, b < H.size
def qB (q : Nat) (lw cv : Value) (C : List Nat) : List Nat := q :: (own lw ++ own cv ++ C)
def Qk (H : Heap) (q t : Nat) (B : List Nat) (s : MS) : Prop := ∃ lw cv C, QM H q t lw cv s C ∧ B = qB q lw cv C
theorem idxOf_at : ∀ (L : List Nat) (i n : Nat), L[i]? = some n → (∀ j, j < i → L[j]? ≠ some n) → L.idxOf n = i := by
  intro L
  induction L with
  | nil => intro i n h; simp at h
  | cons a L ih =>
    intro i n h hj
    cases i with
    | zero => simp at h; subst h; simp
    | succ i =>
      have h0 := hj 0 (by omega)
      simp at h0
      rw [List.idxOf_cons]
      have e : (a == n) = false := by simp [h0]
      rw [e]
      simp only [cond_false]
      rw [ih i n (by simpa using h) (fun j hjj => by have := hj (j + 1) (by omega); simpa using this)]
section
variable {H : Heap} {q t : Nat} {lw cv : Value} {s : MS} {C B : List Nat}
theorem QM.frame {H' : Heap} {F : List Nat} (h : QM H q t lw cv s C) (hf : Fr F H H') (hd : ∀ b ∈ qB q lw cv C, b ∉ F) : QM H' q t lw cv s C :=
  ⟨hf.blk h.self (hd q (by simp [qB])), h.vl.frame hf (fun b hb => hd b (by simp [qB, hb])), h.vc.frame hf (fun b hb => hd b (by simp [qB, hb])) (fun b hb => hd b (by simp [qB, hb])), h.s1, h.s2, h.s3, h.s4, fun b hb => Nat.lt_of_lt_of_le (h.cl b hb) hf.size⟩
theorem Qk.frame {H' : Heap} {F : List Nat} (h : Qk H q t B s) (hf : Fr F H H') (hd : ∀ b ∈ B, b ∉ F) : Qk H' q t B s := by
  obtain ⟨lw, cv, C, h1, rfl⟩ := h
  exact ⟨lw, cv, C, h1.frame hf hd, rfl⟩
theorem QM.lt (h : QM H q t lw cv s C) : ∀ b ∈ qB q lw cv C, b < H.size := by
  intro b hb
  simp only [qB, List.mem_cons, List.mem_append] at hb
  rcases hb with rfl | (hb | hb) | hb
  · exact h.self.lt
  · exact h.vl.lt b hb
  · obtain ⟨cvs, a, _⟩ := h.vc; exact a.lt b hb
  · exact h.cl b hb
theorem qvar_spec (h : QM H q t lw cv s C) (hL : s.1.length ≤ 1000000) {n : Nat} : CallF Try.prog 22 [hp q, iv n] H (fun r H' => H = H' ∧ r = iv (varOf s.1 n)) NoP := by
  have c1 : cellH H ⟨q, 1, none⟩ = some lw := h.self.cell 1
  obtain ⟨la, lc, el⟩ := h.vl.form
  rw [List.length_map] at el
  rw [el] at c1
  refine callF_of Try.func22 rfl Try.ntmps22 Try.results22 (by decide) rfl ?_
  simp (disch := omega) only [go_sem, ↓cw_block]
  refine loop_by (fun k ρ H1 => ∃ (i : Nat), k = s.1.length - i ∧ i ≤ s.1.length ∧ H = H1 ∧ (ρ.get 0 = hp q ∧ ρ.get 1 = iv n ∧ ρ.get 5 = iv i ∧ ρ.ds = []) ∧ ∀ j, j < i → s.1[j]? ≠ some n) (k := s.1.length) ?_ ?_
  · exact ⟨0, rfl, by omega, rfl, by simp (disch := omega) only [go_sem, ↓cw_block], by omega⟩
  · rintro k ρ _ ⟨i, rfl, hi, rfl, ⟨r0, r1, r5, rd⟩, hno⟩
    have hi1 : (i : Int) + 1 = ((i + 1 : Nat) : Int) := by omega
    by_cases hin : i < s.1.length
    · obtain ⟨b, o, cc, ev, hc⟩ := h.vl.at (i := i) (by simpa using hin)
      rw [nt_nat hin] at hc
      rw [el] at ev
      simp only [Value.slice.injEq] at ev
      obtain ⟨rfl, _, rfl⟩ := ev
      have hg : s.1[i]? = some s.1[i] := by simp [hin]
      by_cases he : s.1[i] = n
      · have hv : varOf s.1 n = (i : Int) + 1 := by
          unfold varOf
          rw [if_pos (by rw [← he]; exact List.getElem_mem hin), idxOf_at s.1 i n (by rw [hg, he]) hno]
        rw [he] at hc
        simp (disch := omega) only [go_sem, ↓cw_block, r0, r1, r5, rd, c1, hc, dsB_of]
        exact fin ⟨rfl, by rw [hv]⟩
      · have he' : ¬ ((s.1[i] : Nat) : Int) = (n : Int) := by omega
        simp (disch := omega) only [go_sem, ↓cw_block, r0, r1, r5, rd, c1, hc, he']
        refine fin ⟨s.1.length - (i + 1), by omega, i + 1, rfl, by omega, rfl, by simp (disch := omega) only [go_sem, ↓cw_block, r0, r1, r5, rd, hi1], fun j hj => ?_⟩
        rcases Nat.lt_or_ge j i with h' | h'
        · exact hno j h'
        · have : j = i := by omega
          subst this
          rw [hg]; simpa using he
    · have hv : varOf s.1 n = 0 := varOf_none (fun hm => by
        obtain ⟨j, hj⟩ := List.getElem?_of_mem hm
        have := (List.getElem?_eq_some_iff.1 hj).1
        exact hno j (by omega) hj)
      simp (disch := omega) only [go_sem, ↓cw_block, r0, r1, r5, rd, c1, dsB_of]
      exact fin ⟨rfl, by rw [hv]⟩
theorem qlit_spec (h : QM H q t lw cv s C) (hL : s.1.length ≤ 1000000) {e : Nat} (he : (e : Int) ≤ 9223372036854775807) : CallF Try.prog 36 [hp q, iv e] H (fun v H' => H = H' ∧ v = iv (litM s.1 e)) NoP := by
  have e2 : (e : Int) / 2 = ((e / 2 : Nat) : Int) := by omega
  have hv := varOf_rng (L := s.1) (n := e / 2)
  unfold litM
  refine callF_of Try.func36 rfl Try.ntmps36 Try.results36 (by decide) rfl ?_
  by_cases ho : e % 2 = 1
  · rw [if_pos ho]
    simp (disch := omega) only [go_sem, ↓cw_block, e2]
    refine call_to (qvar_spec h hL) ?_
    rintro _ _ ⟨rfl, rfl⟩
    simp (disch := omega) only [go_sem, ↓cw_block]
    exact fin ⟨rfl, rfl⟩
  · rw [if_neg ho]
    simp (disch := omega) only [go_sem, ↓cw_block, e2]
    refine call_to (qvar_spec h hL) ?_
    rintro _ _ ⟨rfl, rfl⟩
    simp (disch := omega) only [go_sem, ↓cw_block]
    exact fin ⟨rfl, rfl⟩
end
end Go.Proofs.Ytplcehlonfhooaa
