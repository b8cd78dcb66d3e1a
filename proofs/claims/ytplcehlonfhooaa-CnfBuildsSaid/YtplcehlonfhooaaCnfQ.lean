/- The laws on clauses: their own helpers. -/
import Derived.Test.YtplcehlonfhooaaCnfP
namespace Go.Proofs.Ytplcehlonfhooaa
open Go.HL
set_option maxRecDepth 10000
set_option linter.unusedSimpArgs false

/-- A slice of numbers that is read. -/
def IR (H : Heap) (v : Value) (xs : List Int) : Prop := ∃ a c, v = .slice a xs.length c ∧ ∀ i, i < xs.length → ∃ b o, a = some ⟨b, o, none⟩ ∧ cellH H ⟨b, o + i, none⟩ = some (iv (nt xs i))
theorem IR.of_blk {H : Heap} {b : Nat} {xs : List Int} (h : Blk H b 3 (xs.map (Value.int .i64))) {c : Nat} : IR H (.slice (some ⟨b, 0, none⟩) xs.length c) xs := by
  refine ⟨_, _, rfl, fun i hi => ⟨b, 0, rfl, ?_⟩⟩
  rw [Nat.zero_add, h.cell, List.getElem?_map, nt_lt hi]; rfl
theorem IR.of_IV {H : Heap} {e : Nat} {v : Value} {xs : List Int} (h : IV H e v xs) : IR H v xs := by
  obtain ⟨a, c, rfl⟩ := h.form
  refine ⟨a, c, rfl, fun i hi => ?_⟩
  obtain ⟨b, o, cap, e1, hc⟩ := h.at hi
  simp only [Value.slice.injEq] at e1
  exact ⟨b, o, e1.1, hc⟩
theorem nt_ext {xs ys : List Int} (hl : xs.length = ys.length) (h : ∀ j, j < xs.length → nt xs j = nt ys j) : xs = ys := by
  apply List.ext_getElem?
  intro i
  rcases Nat.lt_or_ge i xs.length with hi | hi
  · rw [nt_lt hi, nt_lt (by omega), h i hi]
  · rw [List.getElem?_eq_none hi, List.getElem?_eq_none (by omega)]
section
variable {H : Heap}
theorem ints_spec {v w : Value} {xs ys : List Int} (h1 : IR H v xs) (h2 : IR H w ys) (hl : xs.length ≤ 1000000) : CallF Try.prog 27 [v, w] H (fun r H' => H = H' ∧ r = .bool (decide (xs = ys))) NoP := by
  obtain ⟨a, c, rfl, ha⟩ := h1
  obtain ⟨a', c', rfl, ha'⟩ := h2
  refine callF_of Try.func27 rfl Try.ntmps27 Try.results27 (by decide) rfl ?_
  by_cases hlen : xs.length = ys.length
  · simp (disch := omega) only [go_sem, ↓cw_block]
    refine loop_by (fun k ρ H1 => ∃ (i : Nat), k = xs.length - i ∧ i ≤ xs.length ∧ H = H1 ∧ (ρ.get 0 = .slice a xs.length c ∧ ρ.get 1 = .slice a' ys.length c' ∧ ρ.get 5 = iv i ∧ ρ.ds = []) ∧ ∀ j, j < i → nt xs j = nt ys j) (k := xs.length) ?_ ?_
    · exact ⟨0, rfl, by omega, rfl, by simp (disch := omega) only [go_sem, ↓cw_block], by omega⟩
    · rintro k ρ _ ⟨i, rfl, hi, rfl, ⟨r0, r1, r5, rd⟩, heq⟩
      have hi1 : (i : Int) + 1 = ((i + 1 : Nat) : Int) := by omega
      by_cases hin : i < xs.length
      · obtain ⟨b, o, rfl, hc⟩ := ha i hin
        obtain ⟨b', o', rfl, hc'⟩ := ha' i (by omega)
        simp (disch := omega) only [go_sem, ↓cw_block, r0, r1, r5, rd]
        refine draw0 (lk [(0, true), (1, true), (2, true), (3, true), (4, true), (5, true), (6, true), (7, true), (8, true)] .fin) T.mixed ?_
        by_cases hne : nt xs i = nt ys i
        · simp (disch := omega) only [go_sem, ↓cw_block, r0, r1, r5, rd, hc, hc', hne]
          refine fin ⟨xs.length - (i + 1), by omega, i + 1, rfl, by omega, rfl, by simp (disch := omega) only [go_sem, ↓cw_block, r0, r1, r5, rd, hi1], fun j hj => ?_⟩
          rcases Nat.lt_or_ge j i with h | h
          · exact heq j h
          · have : j = i := by omega
            subst this; exact hne
        · simp (disch := omega) only [go_sem, ↓cw_block, r0, r1, r5, rd, hc, hc', hne, dsB_of]
          exact fin ⟨rfl, by rw [decide_eq_false (fun e => hne (by rw [e]))]⟩
      · have : i = xs.length := by omega
        subst this
        have e : xs = ys := nt_ext hlen heq
        simp (disch := omega) only [go_sem, ↓cw_block, r0, r1, r5, rd, dsB_of]
        exact fin ⟨rfl, by rw [decide_eq_true e]⟩
  · simp (disch := omega) only [go_sem, ↓cw_block]
    exact fin ⟨rfl, by rw [decide_eq_false (fun e => hlen (by rw [e]))]⟩

theorem awake_spec : CallF Try.prog 6 [] H (fun r H' => r = .bool true ∧ Fr [] H H') NoP := by
  refine callF_of Try.func6 rfl Try.ntmps6 Try.results6 (by decide) rfl ?_
  simp (disch := omega) only [go_sem, ↓cw_block]
  refine call_to gnew_spec ?_
  rintro _ H1 ⟨f1, g, B1, rfl, h1, b1⟩
  simp (disch := omega) only [go_sem, ↓cw_block]
  refine call_to cnew_spec ?_
  rintro _ H2 ⟨f2, m, M2, rfl, k2, m2⟩
  simp (disch := omega) only [go_sem, ↓cw_block]
  refine call_to cnew_nil ?_
  rintro _ _ ⟨rfl, rfl⟩
  have h2 := h1.frame f2 (by simp)
  simp (disch := omega) only [go_sem, ↓cw_block]
  refine call_to (input_spec h2 (by simp)) ?_
  rintro _ H3 ⟨rfl, B3, h3, f3, g3⟩
  simp (disch := omega) only [go_sem, ↓cw_block]
  refine call_to (input_spec h3 (by simp)) ?_
  rintro _ H4 ⟨rfl, B4, h4, f4, g4⟩
  simp (disch := omega) only [go_sem, ↓cw_block]
  refine call_to (and_spec h4 (by simp) (by simp) (by simp)) ?_
  rintro _ H5 ⟨e, ns5, rfl, hR, B5, h5, f5, g5⟩
  have e6 : e = 6 ∧ ns5 = [(0, 0), (0, 0), (0, 0), (2, 4)] := by
    simp only [List.cons_append, List.nil_append, List.length_cons, List.length_nil] at hR
    have o1 : ownM [(0, 0), (0, 0), (0, 0)] (((2 * (0 + 1) : Nat) : Int)) = 2 := by decide
    have o2 : ownM [(0, 0), (0, 0), (0, 0)] (((2 * (0 + 1 + 1) : Nat) : Int)) = 4 := by decide
    rw [o1, o2] at hR
    rcases hR with ⟨_, ⟨h, _⟩ | ⟨h, _⟩ | ⟨n, h0, hn, _⟩⟩ | ⟨rfl, rfl, _⟩
    · simp [nx] at h
    · simp at h
    · exfalso
      match n, hn with
      | 0, hn => simp at hn
      | 1, hn => simp at hn
      | 2, hn => simp at hn
      | n + 3, hn => simp at hn
    · exact ⟨rfl, rfl⟩
  obtain ⟨rfl, rfl⟩ := e6
  have hs1 := f1.size
  have hs2 := f2.size
  have gg : Grow B1 B5 H2 := (g3.trans g4 f3.size).trans g5 (Nat.le_trans f3.size f4.size)
  have F25 : Fr B1 H2 H5 := Fr.grow (Fr.grow f3 f4 g3) f5 (g3.trans g4 f3.size)
  have hlt1 := h1.lt
  have hlt2 := k2.lt
  have d15 : ∀ b ∈ B5, b ∉ M2 := by
    intro b hb e
    rcases gg b hb with h | h
    · have := hlt1 b h; have := m2 b e; omega
    · have := hlt2 b e; omega
  have k5 := k2.frame F25 (fun b hb e => by have := hlt1 b e; have := m2 b hb; omega)
  have hM : GMk H5 g m B5 M2 [(0, 0), (0, 0), (0, 0), (2, 4)] ([] ++ [[(0, 0)].length] ++ [([(0, 0)] ++ [(0, 0)]).length]) ([0], [[-1]]) := ⟨h5, k5, d15, by simp, by simp, by simp⟩
  simp (disch := omega) only [go_sem, ↓cw_block]
  refine call_to (Lit_spec hM (by simp)) ?_
  rintro _ H6 ⟨rfl, f6, B6, hM6, g6⟩
  have on : ownM [(0, 0), (0, 0), (0, 0), (2, 4)] ((6 : Nat) : Int) = 6 := by decide
  have nm : needM [(0, 0), (0, 0), (0, 0), (2, 4)] 3 ([0], [[-1]]) = ([0, 1, 2, 3], [[-1], [-4, 2], [-4, 3], [4, -2, -3]]) := by decide
  rw [on] at hM6 ⊢
  simp only [Nat.reduceDiv] at hM6 ⊢
  rw [nm] at hM6 ⊢
  have lm : litM [0, 1, 2, 3] 6 = 4 := by decide
  simp only [lm]
  simp (disch := omega) only [go_sem, ↓cw_block]
  refine call_to (take_spec hM6.mkr) ?_
  rintro cv H7 ⟨C, cv7, c7, f7, B7, k7, b7, n7⟩
  obtain ⟨a7, cc7, rfl⟩ := cv7.form
  simp (disch := omega) only [go_sem, ↓cw_block]
  refine call_to (vars_spec k7) ?_
  rintro _ _ ⟨rfl, rfl⟩
  obtain ⟨cvs, v1, v2, v3⟩ := cv7
  obtain ⟨bb, q1, q2, q3⟩ := v3 3 [4, -2, -3] rfl
  have hcvs : cvs ≠ [] := by intro e; rw [e] at v2; simp at v2
  obtain ⟨b8, o8, l8, p8, e8, _, hc8⟩ := v1.cell hcvs
  simp only [Value.slice.injEq] at e8
  obtain ⟨rfl, rfl, rfl⟩ := e8
  have hc3 := hc8 3 (by rw [v2]; simp)
  rw [q2] at hc3
  simp only [List.length_cons, List.length_nil] at hc3
  obtain ⟨H8, hH8⟩ : ∃ H8, H8 = H7.push (.cells #[iv 4, iv (-2), iv (-3)] 3) := ⟨_, rfl⟩
  have F8 : Fr [] H7 H8 := by rw [hH8]; exact Fr.push
  have x8 : Blk H8 H7.size 3 ([4, -2, -3].map (Value.int .i64)) := by rw [hH8]; exact Blk.new rfl
  have y8 := F8.blk q3 (by simp)
  have k8 := k7.frame F8 (by simp)
  simp (disch := omega) only [go_sem, ↓cw_block, hc3, List.length_cons, List.length_nil]
  rw [← hH8]
  refine call_to (ints_spec (IR.of_blk (c := 3) y8) (IR.of_blk (c := 3) x8) (by simp)) ?_
  rintro _ _ ⟨rfl, rfl⟩
  simp (disch := omega) only [go_sem, ↓cw_block, decide_true]
  refine call_to (take_spec k8) ?_
  rintro cv9 H9 ⟨C9, cv9', c9, f9, B9, k9, b9, n9⟩
  obtain ⟨a9, cc9, rfl⟩ := cv9'.form
  simp (disch := omega) only [go_sem, ↓cw_block, List.length_nil]
  refine fin ⟨rfl, ?_⟩
  have F2 : Fr [] H H2 := f1.trans f2
  have F5 : Fr [] H H5 := fr_new' F2 F25 b1
  have mM : ∀ b ∈ M2, H.size ≤ b := fun b hb => by have := m2 b hb; omega
  have F6 : Fr [] H H6 := fr_new' F5 f6 mM
  have m6 : ∀ b ∈ B6, H.size ≤ b := fun b hb => (g6 b hb).elim (mM b) (fun h => by have := F5.size; omega)
  have F7 : Fr [] H H7 := fr_new' F6 f7 m6
  exact fr_new' (F7.trans F8) f9 (fun b hb => m6 b (b7 b hb))
end
end Go.Proofs.Ytplcehlonfhooaa
