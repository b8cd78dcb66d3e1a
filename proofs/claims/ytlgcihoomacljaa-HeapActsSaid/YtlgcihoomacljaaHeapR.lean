/- The document's heap: what each of its functions does. -/
import Derived.Test.YtlgcihoomacljaaHeapH
namespace Go.Proofs.Ytlgcihoomacljaa
open Go.HL HM
set_option maxRecDepth 10000
set_option linter.unusedSimpArgs false

/-- The document's heap in memory: a struct of two lists. -/
structure RH (H : Heap) (q : Nat) (wi wa : Value) (bs : List Bool) (az : List Int) : Prop where
  self : Blk H q 44 [wi, wa]
  vi : BV H 4 wi bs
  va : IV H 2 wa az
  s1 : q ∉ own wi
  s2 : q ∉ own wa
  s3 : ∀ b ∈ own wi, b ∉ own wa
  len : az.length = bs.length
  big : bs.length ≤ 100000
def RH.blocks (q : Nat) (wi wa : Value) : List Nat := q :: (own wi ++ own wa)
section
variable {H : Heap} {q : Nat} {wi wa : Value} {bs : List Bool} {az : List Int}
theorem RH.c0 (h : RH H q wi wa bs az) : cellH H ⟨q, 0, none⟩ = some wi := h.self.cell 0
theorem RH.c1 (h : RH H q wi wa bs az) : cellH H ⟨q, 1, none⟩ = some wa := h.self.cell 1
theorem RH.frame {H' : Heap} {F : List Nat} (h : RH H q wi wa bs az) (hf : Fr F H H') (hd : ∀ b ∈ RH.blocks q wi wa, b ∉ F) : RH H' q wi wa bs az :=
  ⟨hf.blk h.self (hd q (by simp [RH.blocks])), h.vi.frame hf (fun b hb => hd b (by simp [RH.blocks, hb])), h.va.frame hf (fun b hb => hd b (by simp [RH.blocks, hb])), h.s1, h.s2, h.s3, h.len, h.big⟩

theorem ris_spec (h : RH H q wi wa bs az) {v : Int} :
    CallF Try.prog 28 [hp q, iv v] H (fun r H' => H = H' ∧ r = .bool (decide (1 ≤ v ∧ v ≤ bs.length))) NoP := by
  obtain ⟨a, c, ew⟩ := h.vi.form
  have c0 := h.c0
  rw [ew] at c0
  refine callF_of Try.func28 rfl Try.ntmps28 Try.results28 (by decide) rfl ?_
  by_cases h1 : 1 ≤ v
  · simp (disch := omega) only [go_sem, ↓cw_block, c0]
    exact fin ⟨rfl, by simp [h1]⟩
  · simp (disch := omega) only [go_sem, ↓cw_block, c0]
    exact fin ⟨rfl, by simp [h1]⟩

theorem rput_no (h : RH H q wi wa bs az) {v : Int} (hv : ¬ (1 ≤ v ∧ v ≤ bs.length ∧ bt bs (v - 1).toNat = false)) :
    CallF Try.prog 18 [hp q, iv v] H (fun r H' => H = H' ∧ r = .bool false) NoP := by
  have c0 := h.c0
  have hbig := h.big
  refine callF_of Try.func18 rfl Try.ntmps18 Try.results18 (by decide) rfl ?_
  simp (disch := omega) only [go_sem, ↓cw_block]
  refine call_to (ris_spec h) ?_
  rintro _ _ ⟨rfl, rfl⟩
  by_cases h1 : 1 ≤ v ∧ v ≤ bs.length
  · obtain ⟨b, o, c, ew, hc⟩ := h.vi.at (i := (v - 1).toNat) (by omega)
    rw [ew] at c0
    have : bt bs (v - 1).toNat = true := by
      cases hb : bt bs (v - 1).toNat with
      | true => rfl
      | false => exact absurd ⟨h1.1, h1.2, hb⟩ hv
    rw [this] at hc
    simp (disch := omega) only [go_sem, ↓cw_block, c0, hc, h1]
    exact fin ⟨rfl, rfl⟩
  · simp (disch := omega) only [go_sem, ↓cw_block, c0, h1, decide_false]
    exact fin ⟨rfl, rfl⟩
theorem rput_yes (h : RH H q wi wa bs az) {v : Nat} (hv : v < bs.length) (hb : bt bs v = false) :
    CallF Try.prog 18 [hp q, iv ((v : Int) + 1)] H (fun r H' => r = .bool true ∧ RH H' q wi wa (bs.set v true) az ∧ Fr (RH.blocks q wi wa) H H') NoP := by
  have c0 := h.c0
  obtain ⟨b, o, c, ew, hw, hv', hc⟩ := h.vi.put hv true
  rw [hb] at hc
  have e1 : ((v : Int) + 1 - 1) = (v : Int) := by omega
  refine callF_of Try.func18 rfl Try.ntmps18 Try.results18 (by decide) rfl ?_
  simp (disch := omega) only [go_sem, ↓cw_block]
  refine call_to (ris_spec h) ?_
  rintro _ _ ⟨rfl, rfl⟩
  have hs1 := h.s1
  have hs3 := h.s3
  subst ew
  have hq : q ≠ b := by intro e; exact hs1 (by simp [own, e])
  have hb2 : b ∉ own wa := hs3 b (by simp [own])
  by_cases hr : 1 ≤ (v : Int) + 1 ∧ (v : Int) + 1 ≤ bs.length
  · have hbig := h.big
    simp (disch := omega) only [go_sem, ↓cw_block, c0, hc, hr, e1, hw]
    exact fin ⟨rfl, ⟨h.self.set_other hq, hv', h.va.frame (F := [b]) (Fr.set (by simp)) (by intro x hx e; simp at e; subst e; exact hb2 hx), h.s1, h.s2, h.s3, by simp [h.len], by simp [h.big]⟩, Fr.set (by simp [RH.blocks, own])⟩
  · omega

theorem RH.setA (h : RH H q wi wa bs az) {i : Nat} (hi : i < az.length) (u : Int) : ∃ b o c, wa = .slice (some ⟨b, o, none⟩) az.length c ∧ wr H ⟨b, o + i, none⟩ (iv u) = some (setH H ⟨b, o + i, none⟩ (iv u)) ∧
    RH (setH H ⟨b, o + i, none⟩ (iv u)) q wi wa bs (az.set i u) ∧ Fr (RH.blocks q wi wa) H (setH H ⟨b, o + i, none⟩ (iv u)) ∧ cellH H ⟨b, o + i, none⟩ = some (iv (nt az i)) := by
  obtain ⟨b, o, c, ew, hw, hv', hc⟩ := h.va.put hi u
  have hq : q ≠ b := by intro e; exact h.s2 (by simp [own, ew, e])
  refine ⟨b, o, c, ew, hw, ⟨h.self.set_other hq, h.vi.frame (F := [b]) (Fr.set (by simp)) ?_, hv', h.s1, h.s2, h.s3, by simp [h.len], h.big⟩, Fr.set (by simp [RH.blocks, own, ew]), hc⟩
  intro x hx e
  simp at e; subst e
  exact h.s3 x hx (by simp [own, ew])

/-- The i-th of the first ones is the best of those that are in. -/
def Bst (bs : List Bool) (az : List Int) (n b : Nat) : Prop := b < n ∧ bt bs b = true ∧ ∀ j, j < n → bt bs j = true → (nt az j < nt az b ∨ nt az j = nt az b ∧ b ≤ j)
theorem rnext_spec (h : RH H q wi wa bs az) : CallF Try.prog 19 [hp q] H (fun r H' => (r = .tuple #[iv 0, .bool false] ∧ H = H' ∧ ∀ j, j < bs.length → bt bs j = false) ∨
    ∃ b, Bst bs az bs.length b ∧ r = .tuple #[iv ((b : Int) + 1), .bool true] ∧ RH H' q wi wa (bs.set b false) az ∧ Fr (RH.blocks q wi wa) H H') NoP := by
  have c0 := h.c0
  have c1 := h.c1
  have hbig := h.big
  have hlen := h.len
  obtain ⟨ai, ci, ei⟩ := h.vi.form
  obtain ⟨aa, ca, ea⟩ := h.va.form
  refine callF_of Try.func19 rfl Try.ntmps19 Try.results19 (by decide) rfl ?_
  simp (disch := omega) only [go_sem, ↓cw_block]
  refine loop_by (fun k ρ H1 => ∃ (i : Nat) (best : Int), k = bs.length - i ∧ i ≤ bs.length ∧ H = H1 ∧ (ρ.get 0 = hp q ∧ ρ.get 4 = iv best ∧ ρ.get 5 = iv i ∧ ρ.ds = []) ∧
    ((best = -1 ∧ ∀ j, j < i → bt bs j = false) ∨ ∃ b : Nat, best = b ∧ Bst bs az i b)) (k := bs.length) ?_ ?_
  · exact ⟨0, -1, rfl, by omega, rfl, by simp (disch := omega) only [go_sem, ↓cw_block], .inl ⟨rfl, by omega⟩⟩
  · rintro k ρ H1 ⟨i, best, rfl, hi, rfl, ⟨r0, r4, r5, rd⟩, hb⟩
    have hi1 : (i : Int) + 1 = ((i + 1 : Nat) : Int) := by omega
    by_cases hin : i < bs.length
    · obtain ⟨b2, o2, c2, ew, hc⟩ := h.vi.at hin
      obtain ⟨b3, o3, c3, ew3, hc3⟩ := h.va.at (i := i) (by omega)
      rw [ew] at c0
      rw [ew3] at c1
      simp (disch := omega) only [go_sem, ↓cw_block, r0, r4, r5, rd, c0]
      refine draw0 (lk [(0, true), (1, true), (2, true), (3, true), (4, true), (5, true), (6, true), (7, true), (8, true), (9, true), (10, true), (11, true), (12, true), (13, true), (14, true), (15, true), (16, true), (17, true), (18, true), (19, true), (20, true), (21, true), (22, true), (23, true), (24, true), (25, true), (26, true), (27, true)] .fin) T.mixed ?_
      cases hbi : bt bs i with
      | false =>
        rw [hbi] at hc
        simp (disch := omega) only [go_sem, ↓cw_block, r0, r4, r5, rd, c0, hc]
        refine fin ⟨bs.length - (i + 1), by omega, i + 1, best, rfl, by omega, rfl, by simp (disch := omega) only [go_sem, ↓cw_block, r0, r4, r5, rd, hi1], ?_⟩
        rcases hb with ⟨h1, h2⟩ | ⟨b, h1, h2, h3, h4⟩
        · refine .inl ⟨h1, fun j hj => ?_⟩
          rcases Nat.lt_or_ge j i with h | h
          · exact h2 j h
          · have : j = i := by omega
            subst this; exact hbi
        · refine .inr ⟨b, h1, by omega, h3, fun j hj hj2 => ?_⟩
          rcases Nat.lt_or_ge j i with h | h
          · exact h4 j h hj2
          · have : j = i := by omega
            subst this; rw [hbi] at hj2; simp at hj2
      | true =>
        rw [hbi] at hc
        rcases hb with ⟨rfl, h2⟩ | ⟨b, rfl, h2, h3, h4⟩
        · simp (disch := omega) only [go_sem, ↓cw_block, r0, r4, r5, rd, c0, hc]
          refine fin ⟨bs.length - (i + 1), by omega, i + 1, i, rfl, by omega, rfl, by simp (disch := omega) only [go_sem, ↓cw_block, r0, r4, r5, rd, hi1], .inr ⟨i, rfl, by omega, hbi, fun j hj hj2 => ?_⟩⟩
          rcases Nat.lt_or_ge j i with h | h
          · rw [h2 j h] at hj2; simp at hj2
          · have : j = i := by omega
            subst this; omega
        · obtain ⟨b4, o4, c4, ew4, hc4⟩ := h.va.at (i := b) (by omega)
          rw [ew3] at ew4
          simp only [Value.slice.injEq, Option.some.injEq, Addr.mk.injEq] at ew4
          obtain ⟨⟨rfl, rfl, _⟩, _, rfl⟩ := ew4
          by_cases hgt : nt az b < nt az i
          · simp (disch := omega) only [go_sem, ↓cw_block, r0, r4, r5, rd, c0, c1, hc, hc3, hc4]
            refine fin ⟨bs.length - (i + 1), by omega, i + 1, i, rfl, by omega, rfl, by simp (disch := omega) only [go_sem, ↓cw_block, r0, r4, r5, rd, hi1], .inr ⟨i, rfl, by omega, hbi, fun j hj hj2 => ?_⟩⟩
            rcases Nat.lt_or_ge j i with h | h
            · have := h4 j h hj2; omega
            · have : j = i := by omega
              subst this; omega
          · simp (disch := omega) only [go_sem, ↓cw_block, r0, r4, r5, rd, c0, c1, hc, hc3, hc4]
            refine fin ⟨bs.length - (i + 1), by omega, i + 1, b, rfl, by omega, rfl, by simp (disch := omega) only [go_sem, ↓cw_block, r0, r4, r5, rd, hi1], .inr ⟨b, rfl, by omega, h3, fun j hj hj2 => ?_⟩⟩
            rcases Nat.lt_or_ge j i with h | h
            · exact h4 j h hj2
            · have : j = i := by omega
              subst this; omega
    · rw [ei] at c0
      have : i = bs.length := by omega
      subst this
      rcases hb with ⟨rfl, h2⟩ | ⟨b, rfl, h2, h3, h4⟩
      · simp (disch := omega) only [go_sem, ↓cw_block, r0, r4, r5, rd, c0, dsB_of]
        exact fin (.inl ⟨rfl, rfl, h2⟩)
      · obtain ⟨b5, o5, c5, ew, hw, hv', hc⟩ := h.vi.put (i := b) (by omega) false
        rw [ei] at ew
        simp only [Value.slice.injEq] at ew
        obtain ⟨rfl, _, rfl⟩ := ew
        have hq : q ≠ b5 := by intro e; exact h.s1 (by simp [own, ei, e])
        simp (disch := omega) only [go_sem, ↓cw_block, r0, r4, r5, rd, c0, hw, dsB_of]
        refine fin (.inr ⟨b, ⟨h2, h3, h4⟩, rfl, ⟨h.self.set_other hq, hv', h.va.frame (F := [b5]) (Fr.set (by simp)) ?_, h.s1, h.s2, h.s3, by simp [h.len], by simp [h.big]⟩, Fr.set (by simp [RH.blocks, own, ei])⟩)
        intro x hx e
        simp at e; subst e
        exact h.s3 x (by simp [own, ei]) hx

theorem rbump_no (h : RH H q wi wa bs az) {v d : Int} (hv : ¬ (1 ≤ v ∧ v ≤ bs.length ∧ 0 ≤ d)) :
    CallF Try.prog 20 [hp q, iv v, iv d] H (fun r H' => H = H' ∧ r = .bool false) NoP := by
  refine callF_of Try.func20 rfl Try.ntmps20 Try.results20 (by decide) rfl ?_
  simp (disch := omega) only [go_sem, ↓cw_block]
  refine call_to (ris_spec h) ?_
  rintro _ _ ⟨rfl, rfl⟩
  by_cases h1 : 1 ≤ v ∧ v ≤ bs.length
  · simp (disch := omega) only [go_sem, ↓cw_block, h1]
    exact fin ⟨rfl, rfl⟩
  · simp (disch := omega) only [go_sem, ↓cw_block, h1, decide_false]
    exact fin ⟨rfl, rfl⟩
theorem rbump_yes (h : RH H q wi wa bs az) {v : Nat} {d : Int} (hv : v < bs.length) (hd : 0 ≤ d) (hd2 : d ≤ 9223372036854775807) (ha : 0 ≤ nt az v ∧ nt az v ≤ 1152921504606846976) :
    CallF Try.prog 20 [hp q, iv ((v : Int) + 1), iv d] H (fun r H' => r = .bool true ∧ RH H' q wi wa bs (az.set v (min (nt az v + d) 1152921504606846976)) ∧ Fr (RH.blocks q wi wa) H H') NoP := by
  have c1 := h.c1
  have hlen := h.len
  have hbig := h.big
  obtain ⟨b, o, c, ew, hw, hr, hf, hc⟩ := h.setA (i := v) (by omega) (min (nt az v + d) 1152921504606846976)
  have e1 : ((v : Int) + 1 - 1) = (v : Int) := by omega
  have hr1 : 1 ≤ (v : Int) + 1 ∧ (v : Int) + 1 ≤ bs.length := by omega
  refine callF_of Try.func20 rfl Try.ntmps20 Try.results20 (by decide) rfl ?_
  simp (disch := omega) only [go_sem, ↓cw_block]
  refine call_to (ris_spec h) ?_
  rintro _ _ ⟨rfl, rfl⟩
  rw [ew] at c1
  by_cases hg : 1152921504606846976 - nt az v < d
  · have em : min (nt az v + d) 1152921504606846976 = 1152921504606846976 := by omega
    rw [em] at hw hr hf ⊢
    simp (disch := omega) only [go_sem, ↓cw_block, hr1, c1, e1, hc, hw]
    exact fin ⟨rfl, hr, hf⟩
  · have em : min (nt az v + d) 1152921504606846976 = nt az v + d := by omega
    rw [em] at hw hr hf ⊢
    simp (disch := omega) only [go_sem, ↓cw_block, hr1, c1, e1, hc]
    refine draw0 (lk [(0, true), (1, true), (2, true), (3, true), (4, true), (5, true), (6, true), (7, true), (8, true), (9, true), (10, true), (11, true), (12, true), (13, true), (14, true), (15, true), (16, true)] (.act 17 .fin .non)) T.mixed ?_
    simp (disch := omega) only [go_sem, ↓cw_block, hr1, c1, e1, hc, hw]
    exact fin ⟨rfl, hr, hf⟩

theorem rhalve_spec (h : RH H q wi wa bs az) (ha : ∀ j, j < az.length → 0 ≤ nt az j ∧ nt az j ≤ 1152921504606846976) :
    CallF Try.prog 21 [hp q] H (fun r H' => r = .tuple #[] ∧ Fr (RH.blocks q wi wa) H H' ∧ ∃ az', RH H' q wi wa bs az' ∧ ∀ j, nt az' j = nt az j / 2) NoP := by
  have hbig := h.big
  have hlen := h.len
  refine callF_of Try.func21 rfl Try.ntmps21 Try.results21 (by decide) rfl ?_
  simp (disch := omega) only [go_sem, ↓cw_block]
  refine loop_by (fun k ρ H1 => ∃ (i : Nat) (az' : List Int), k = az.length - i ∧ i ≤ az.length ∧ (ρ.get 0 = hp q ∧ ρ.get 2 = iv i ∧ ρ.ds = []) ∧ az'.length = az.length ∧ RH H1 q wi wa bs az' ∧ Fr (RH.blocks q wi wa) H H1 ∧
    ∀ j, nt az' j = if j < i then nt az j / 2 else nt az j) (k := az.length) ?_ ?_
  · exact ⟨0, az, rfl, by omega, by simp (disch := omega) only [go_sem, ↓cw_block], rfl, h, Fr.refl _ _, by simp⟩
  · rintro k ρ H1 ⟨i, az', rfl, hi, ⟨r0, r2, rd⟩, hl', h1, f1, hz⟩
    have hi1 : (i : Int) + 1 = ((i + 1 : Nat) : Int) := by omega
    have c1 := h1.c1
    by_cases hin : i < az.length
    · obtain ⟨b, o, c, ew, hw, hr, hf, hc⟩ := h1.setA (i := i) (by omega) (nt az' i / 2)
      have hai := ha i hin
      have hzi := hz i
      rw [if_neg (by omega)] at hzi
      rw [ew] at c1
      simp (disch := omega) only [go_sem, ↓cw_block, r0, r2, rd, c1]
      refine draw0 (lk [(0, true), (1, true), (2, true), (3, true), (4, true), (5, true), (6, true), (7, true), (8, true), (9, true), (10, true), (11, true), (12, true), (13, true)] (.act 14 .fin .non)) T.mixed ?_
      simp (disch := omega) only [go_sem, ↓cw_block, r0, r2, rd, c1, hc, hw]
      refine fin ⟨az.length - (i + 1), by omega, i + 1, _, rfl, by omega, by simp (disch := omega) only [go_sem, ↓cw_block, r0, r2, rd, hi1], by simp [hl'], hr, f1.trans hf, fun j => ?_⟩
      by_cases hj : j = i
      · subst hj
        rw [nt_set_eq (by omega), if_pos (by omega), hzi]
      · rw [nt_set_ne (by omega), hz j]
        by_cases h2 : j < i
        · rw [if_pos h2, if_pos (by omega)]
        · rw [if_neg h2, if_neg (by omega)]
    · obtain ⟨aa, ca, ea⟩ := h1.va.form
      rw [ea] at c1
      simp (disch := omega) only [go_sem, ↓cw_block, r0, r2, rd, c1, dsB_of]
      refine fin ⟨rfl, f1, az', h1, fun j => ?_⟩
      rw [hz j]
      split
      · rfl
      · have : nt az j = 0 := by
          unfold nt; rw [List.getD_eq_getElem?_getD, List.getElem?_eq_none (by omega)]; rfl
        rw [this]; rfl

theorem rlen_spec (h : RH H q wi wa bs az) : CallF Try.prog 22 [hp q] H (fun r H' => H = H' ∧ r = iv (bs.count true : Nat)) NoP := by
  have hbig := h.big
  have c0 := h.c0
  obtain ⟨ai, ci, ei⟩ := h.vi.form
  refine callF_of Try.func22 rfl Try.ntmps22 Try.results22 (by decide) rfl ?_
  simp (disch := omega) only [go_sem, ↓cw_block]
  refine loop_by (fun k ρ H1 => ∃ (i : Nat), k = bs.length - i ∧ i ≤ bs.length ∧ H = H1 ∧ (ρ.get 0 = hp q ∧ ρ.get 3 = iv ((bs.take i).count true : Nat) ∧ ρ.get 4 = iv i ∧ ρ.ds = [])) (k := bs.length) ?_ ?_
  · exact ⟨0, rfl, by omega, rfl, by simp (disch := omega) only [go_sem, ↓cw_block, List.take_zero, List.count_nil]⟩
  · rintro k ρ H1 ⟨i, rfl, hi, rfl, ⟨r0, r3, r4, rd⟩⟩
    have hi1 : (i : Int) + 1 = ((i + 1 : Nat) : Int) := by omega
    by_cases hin : i < bs.length
    · obtain ⟨b2, o2, c2, ew, hc⟩ := h.vi.at hin
      rw [ew] at c0
      have hct : (bs.take (i + 1)).count true = (bs.take i).count true + if bt bs i then 1 else 0 := by
        have hg := bt_lt hin
        rw [List.take_add_one, hg, List.count_append]
        cases bt bs i <;> simp
      have hle : (bs.take i).count true ≤ i := Nat.le_trans List.count_le_length (by simp; omega)
      cases hbi : bt bs i with
      | false =>
        rw [hbi] at hc hct
        have hc3 : (bs.take (i + 1)).count true = (bs.take i).count true := by simpa using hct
        simp (disch := omega) only [go_sem, ↓cw_block, r0, r3, r4, rd, c0, hc]
        exact fin ⟨bs.length - (i + 1), by omega, i + 1, rfl, by omega, rfl, by simp (disch := omega) only [go_sem, ↓cw_block, r0, r3, r4, rd, hi1, hc3]⟩
      | true =>
        rw [hbi] at hc hct
        have hc3 : (((bs.take i).count true : Nat) : Int) + 1 = ((bs.take (i + 1)).count true : Nat) := by rw [hct]; simp
        simp (disch := omega) only [go_sem, ↓cw_block, r0, r3, r4, rd, c0, hc]
        exact fin ⟨bs.length - (i + 1), by omega, i + 1, rfl, by omega, rfl, by simp (disch := omega) only [go_sem, ↓cw_block, r0, r3, r4, rd, hi1, hc3]⟩
    · rw [ei] at c0
      have : i = bs.length := by omega
      subst this
      rw [List.take_length] at r3
      simp (disch := omega) only [go_sem, ↓cw_block, r0, r3, r4, rd, c0, dsB_of]
      exact fin ⟨rfl, rfl⟩

theorem ract_spec (h : RH H q wi wa bs az) {v : Int} (hv : -9223372036854775808 < v) : CallF Try.prog 23 [hp q, iv v] H (fun r H' => H = H' ∧ r = iv (if 1 ≤ v ∧ v ≤ az.length then nt az (v - 1).toNat else 0)) NoP := by
  have hbig := h.big
  have hlen := h.len
  have c1 := h.c1
  obtain ⟨aa, ca, ea⟩ := h.va.form
  refine callF_of Try.func23 rfl Try.ntmps23 Try.results23 (by decide) rfl ?_
  by_cases h1 : v < 1
  · simp (disch := omega) only [go_sem, ↓cw_block]
    exact fin ⟨rfl, by rw [if_neg (by omega)]⟩
  · by_cases h2 : (az.length : Int) < v
    · rw [ea] at c1
      simp (disch := omega) only [go_sem, ↓cw_block, c1]
      exact fin ⟨rfl, by rw [if_neg (by omega)]⟩
    · obtain ⟨b, o, c, ew, hc⟩ := h.va.at (i := (v - 1).toNat) (by omega)
      rw [ew] at c1
      simp (disch := omega) only [go_sem, ↓cw_block, c1, hc]
      exact fin ⟨rfl, by rw [if_pos (by omega)]⟩

theorem rnew_spec {n : Nat} (hn : n ≤ 1000) : CallF Try.prog 17 [iv n] H (fun r H' => Fr [] H H' ∧ ∃ q wi wa, r = hp q ∧ (∀ b ∈ RH.blocks q wi wa, H.size ≤ b) ∧ RH H' q wi wa (List.replicate n true) (List.replicate n 0)) NoP := by
  refine callF_of Try.func17 rfl Try.ntmps17 Try.results17 (by decide) rfl ?_
  simp (disch := omega) only [go_sem, ↓cw_block]
  refine loop_by (fun k ρ H1 => ∃ (i : Nat) (wi wa : Value), k = n - i ∧ i ≤ n ∧ (ρ.get 0 = iv n ∧ ρ.get 3 = hp H.size ∧ ρ.get 4 = iv i ∧ ρ.ds = []) ∧ Fr [] H H1 ∧ (∀ b ∈ RH.blocks H.size wi wa, H.size ≤ b) ∧
    RH H1 H.size wi wa (List.replicate i true) (List.replicate i 0)) (k := n) ?_ ?_
  · exact ⟨0, .slice none 0 0, .slice none 0 0, rfl, by omega, by simp (disch := omega) only [go_sem, ↓cw_block, newPtr], Fr.push, by simp [RH.blocks, own], ⟨Blk.new rfl, Vec.nil, Vec.nil, by simp [own], by simp [own], by simp [own], rfl, by simp⟩⟩
  · rintro k ρ H1 ⟨i, wi, wa, rfl, hi, ⟨r0, r3, r4, rd⟩, f1, hB, h1⟩
    have hi1 : (i : Int) + 1 = ((i + 1 : Nat) : Int) := by omega
    by_cases hin : i < n
    · have c0 := h1.c0
      have e1 : (List.replicate i true).map Value.bool ++ [Value.bool true] = (List.replicate (i + 1) true).map Value.bool := by rw [List.replicate_succ']; simp
      have e2 : (List.replicate i (0 : Int)).map (Value.int .i64) ++ [iv 0] = (List.replicate (i + 1) (0 : Int)).map (Value.int .i64) := by rw [List.replicate_succ']; simp
      have hq1 := h1.self.lt
      simp (disch := omega) only [go_sem, ↓cw_block, r0, r3, r4, rd, c0]
      refine app_lit1 T.el42 rfl h1.vi rfl (by simp; omega) ?_
      rintro w2 H2 g1 g2 g3 ⟨a2, c2, ew2⟩
      rw [e1] at g1
      have b2 := g2.blk h1.self h1.s1
      have w2' := b2.wr (i := 0) (by simp) w2
      have b3 := b2.set 0 w2
      have va3 := (h1.va.frame g2 (fun b hb e => h1.s3 b e hb)).frame (F := [H.size]) (Fr.set (a := ⟨H.size, 0, none⟩) (v := w2) (by simp)) (by intro b hb e; simp at e; subst e; exact h1.s2 hb)
      have hq2 : H.size ∉ own w2 := by intro e; rcases g3 _ e with h | h
                                       · exact h1.s1 h
                                       · omega
      have vi3 := g1.frame (F := [H.size]) (Fr.set (a := ⟨H.size, 0, none⟩) (v := w2) (by simp)) (by intro b hb e; simp at e; subst e; exact hq2 hb)
      have f3 : Fr [] H (setH H2 ⟨H.size, 0, none⟩ w2) := (fr_new f1 g2 (fun b hb => hB b (by simp [RH.blocks, hb]))).set' (.inr (Nat.le_refl _))
      have l3 : H1.size ≤ (setH H2 ⟨H.size, 0, none⟩ w2).size := by rw [size_setH]; exact g2.size
      subst ew2
      generalize hH3 : setH H2 ⟨H.size, 0, none⟩ (.slice a2 _ c2) = H3 at b3 va3 vi3 f3 l3
      have d1 : cellH H3 ⟨H.size, 1, none⟩ = some wa := b3.cell 1
      simp (disch := omega) only [go_sem, ↓cw_block, r0, r3, r4, rd, w2', hH3, d1]
      refine app_lit1 T.el22 rfl va3 rfl (by simp; omega) ?_
      rintro w4 H4 k1 k2 k3 ⟨a4, c4, ew4⟩
      rw [e2] at k1
      have b4 := k2.blk b3 h1.s2
      have w4' := b4.wr (i := 1) (by simp) w4
      have b5 := b4.set 1 w4
      have hq4 : H.size ∉ own w4 := by intro e; rcases k3 _ e with h | h
                                       · exact h1.s2 h
                                       · omega
      have hvl := g1.lt
      have hdis : ∀ b ∈ own (Value.slice a2 ((List.replicate i true).map Value.bool).length.succ c2), b ∉ own w4 := by
        intro b hb e
        rcases k3 b e with h | h
        · rcases g3 b hb with h' | h'
          · exact h1.s3 b h' h
          · have := h1.va.lt b h; omega
        · have := vi3.lt b hb; omega
      have vi5 := (vi3.frame k2 (by
        intro b hb e
        rcases g3 b hb with h' | h'
        · exact h1.s3 b h' e
        · have := h1.va.lt b e; omega)).frame (F := [H.size]) (Fr.set (a := ⟨H.size, 1, none⟩) (v := w4) (by simp)) (by intro b hb e; simp at e; subst e; exact hq2 hb)
      have va5 := k1.frame (F := [H.size]) (Fr.set (a := ⟨H.size, 1, none⟩) (v := w4) (by simp)) (by intro b hb e; simp at e; subst e; exact hq4 hb)
      have f5 : Fr [] H (setH H4 ⟨H.size, 1, none⟩ w4) := (fr_new f3 k2 (fun b hb => hB b (by simp [RH.blocks, hb]))).set' (.inr (Nat.le_refl _))
      subst ew4
      simp (disch := omega) only [go_sem, ↓cw_block, r0, r3, r4, rd, w4']
      refine fin ⟨n - (i + 1), by omega, i + 1, _, _, rfl, by omega, by simp (disch := omega) only [go_sem, ↓cw_block, r0, r3, r4, rd, hi1], f5, ?_, ⟨b5, vi5, va5, hq2, hq4, hdis, by simp, by simp; omega⟩⟩
      have hs1 := f1.size
      have hs3 := f3.size
      intro b hb
      simp only [RH.blocks, List.mem_cons, List.mem_append] at hb
      rcases hb with rfl | hb | hb
      · exact Nat.le_refl _
      · rcases g3 b hb with h | h
        · exact hB b (by simp [RH.blocks, h])
        · omega
      · rcases k3 b hb with h | h
        · exact hB b (by simp [RH.blocks, h])
        · omega
    · have : i = n := by omega
      subst this
      simp (disch := omega) only [go_sem, ↓cw_block, r0, r3, r4, rd, dsB_of]
      exact fin ⟨f1, _, _, _, rfl, hB, h1⟩
end
end Go.Proofs.Ytlgcihoomacljaa
