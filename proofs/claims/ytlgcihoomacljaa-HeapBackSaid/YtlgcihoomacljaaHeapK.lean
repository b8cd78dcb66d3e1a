/- The law that what is taken from a heap and put again comes as it would have: that it returns true. -/
import Derived.Test.YtlgcihoomacljaaHeapH
namespace Go.Proofs.Ytlgcihoomacljaa
open Go.HL HM
set_option maxRecDepth 10000
set_option linter.unusedSimpArgs false

/-- What was taken, one behind the other. -/
structure Tk (A : Nat → Int) (n : Nat) (xs : List Int) : Prop where
  rng : ∀ i, i < xs.length → 1 ≤ nt xs i ∧ nt xs i ≤ n
  dist : ∀ i j, i < j → j < xs.length → nt xs i ≠ nt xs j
  best : ∀ i, i < xs.length → ∀ u : Nat, 1 ≤ u → u ≤ n → (∀ j, j < i → nt xs j ≠ u) → ¬ bf A u (nt xs i)
theorem Tk.nil {A : Nat → Int} {n : Nat} : Tk A n [] := ⟨by simp, by simp, by simp⟩
theorem Tk.more {A : Nat → Int} {n : Nat} {xs : List Int} (h : Tk A n xs) {v : Int} (hv : 1 ≤ v ∧ v ≤ n) (hd : ∀ j, j < xs.length → nt xs j ≠ v)
    (hb : ∀ u : Nat, 1 ≤ u → u ≤ n → (∀ j, j < xs.length → nt xs j ≠ u) → ¬ bf A u v) : Tk A n (xs ++ [v]) := by
  have cs : ∀ i, i < (xs ++ [v]).length → (i < xs.length ∧ nt (xs ++ [v]) i = nt xs i) ∨ (i = xs.length ∧ nt (xs ++ [v]) i = v) := by
    intro i hi
    rcases Nat.lt_or_ge i xs.length with h | h
    · exact .inl ⟨h, nt_append_left h⟩
    · have : i = xs.length := by simp at hi; omega
      subst this
      exact .inr ⟨rfl, nt_append_right⟩
  refine ⟨?_, ?_, ?_⟩
  · intro i hi
    rcases cs i hi with ⟨h1, h2⟩ | ⟨h1, h2⟩
    · rw [h2]; exact h.rng i h1
    · rw [h2]; exact hv
  · intro i j hij hj
    rcases cs j hj with ⟨h1, h2⟩ | ⟨h1, h2⟩
    · rw [h2, nt_append_left (by omega)]; exact h.dist i j hij h1
    · rw [h2, nt_append_left (by omega)]; exact hd i (by omega)
  · intro i hi u h1 h2 h3
    rcases cs i hi with ⟨g1, g2⟩ | ⟨g1, g2⟩
    · rw [g2]; exact h.best i g1 u h1 h2 fun j hj => by have := h3 j hj; rwa [nt_append_left (by omega)] at this
    · rw [g2]; exact hb u h1 h2 fun j hj => by have := h3 j (by omega); rwa [nt_append_left (by omega)] at this

section
variable {H : Heap}
theorem back_spec {v0 : Value} {zs : List Int} {tm : Int} (hv : ArgInts H .i64 v0 zs) (ha : 0 ≤ tm ∧ tm ≤ 255) :
    CallF Try.prog 5 [v0, .int .u8 tm] H (fun r H' => r = .bool true ∧ Fr [] H H') NoP := by
  obtain ⟨a, c, rfl, hat⟩ := argCells hv
  refine callF_of Try.func5 rfl Try.ntmps5 Try.results5 (by decide) rfl ?_
  by_cases hz : zs.length = 0 ∨ 40 < zs.length
  · simp (disch := omega) only [go_sem]
    refine call_to awake_spec ?_
    rintro _ H1 ⟨rfl, f1⟩
    by_cases h0 : 40 < zs.length
    · simp (disch := omega) only [go_sem]
      refine call_to awake_spec ?_
      rintro _ H2 ⟨rfl, f2⟩
      simp (disch := omega) only [go_sem]
      exact fin ⟨rfl, f1.trans f2⟩
    · simp (disch := omega) only [go_sem]
      refine call_to awake_spec ?_
      rintro _ H2 ⟨rfl, f2⟩
      simp (disch := omega) only [go_sem]
      exact fin ⟨rfl, f1.trans f2⟩
  · have hr0 := Int.emod_nonneg tm (b := (zs.length : Int)) (by omega)
    have hr1 := Int.emod_lt_of_pos tm (b := (zs.length : Int)) (by omega)
    obtain ⟨K, hK⟩ : ∃ K : Nat, tm % (zs.length : Int) = (K : Int) := ⟨(tm % (zs.length : Int)).toNat, by omega⟩
    have hK2 : K < zs.length := by omega
    simp (disch := omega) only [go_sem]
    refine call_to awake_spec ?_
    rintro _ H1 ⟨rfl, f1⟩
    simp (disch := omega) only [go_sem]
    refine call_to (new_yes (n := zs.length) (by omega)) ?_
    rintro _ H2 ⟨f2, p, bo, bp, ba, os, pl, rfl, hsz, h2, hin⟩
    have hs1 := f1.size
    simp (disch := omega) only [go_sem]
    refine loop_by (fun k ρ H3 => ∃ (j : Nat) (os pl ac : List Int), k = zs.length - j ∧ j ≤ zs.length ∧ (ρ.get 0 = .slice a zs.length c ∧ ρ.get 1 = .int .u8 tm ∧ ρ.get 5 = hp p ∧ ρ.get 7 = iv j ∧ ρ.ds = []) ∧
      HG H3 p bo bp ba zs.length zs.length os pl ac ∧ Fr [] H H3 ∧ (∀ u, 1 ≤ u → u ≤ zs.length → nt pl u ≠ -1)) (k := zs.length) ?_ ?_
    · exact ⟨0, os, pl, _, rfl, by omega, by simp (disch := omega) only [go_sem], h2, f1.trans f2, hin⟩
    · rintro k ρ H3 ⟨j, os3, pl3, ac3, rfl, hj, ⟨r0, r1, r5, r7, rd⟩, h3, f3, in3⟩
      by_cases hjn : j < zs.length
      · obtain ⟨b, o, ea, hc⟩ := hat j hjn
        subst ea
        have cj := f3.cell' hc (by simp)
        have hb := hv.bnd hjn
        have hj1 : (j : Int) + 1 = ((j + 1 : Nat) : Int) := by omega
        simp (disch := omega) only [go_sem, r0, r1, r5, r7, rd, cj]
        rw [hj1]
        refine call_to (bump_any h3 (v := j + 1) (by omega) (by omega) (by omega)) ?_
        rintro _ H4 ⟨f4, os4, pl4, h4, s4⟩
        simp (disch := omega) only [go_sem, r0, r1, r5, r7, rd]
        exact fin ⟨zs.length - (j + 1), by omega, j + 1, os4, pl4, _, rfl, by omega, by simp (disch := omega) only [go_sem, r0, r1, r5, r7, rd, hj1], h4, fr_new f3 f4 (by simp; omega), fun u h1 h2 => by rw [Ne, s4]; exact in3 u h1 h2⟩
      · simp (disch := omega) only [go_sem, r0, r1, r5, r7, rd]
        refine loop_by (fun k ρ H4 => ∃ (i : Nat) (os pl xs : List Int) (w : Value), k = K + 1 - i ∧ i ≤ K + 1 ∧ (ρ.get 0 = .slice a zs.length c ∧ ρ.get 1 = .int .u8 tm ∧ ρ.get 5 = hp p ∧ ρ.get 8 = w ∧ ρ.get 9 = iv i ∧ ρ.ds = []) ∧
          HG H4 p bo bp ba zs.length (zs.length - i) os pl ac3 ∧ Fr [] H H4 ∧ xs.length = i ∧ IV H4 3 w xs ∧ (∀ b ∈ own w, H.size ≤ b ∧ b ≠ p ∧ b ≠ bo ∧ b ≠ bp ∧ b ≠ ba) ∧ Tk (nt ac3) zs.length xs ∧
          (∀ u : Nat, 1 ≤ u → u ≤ zs.length → (nt pl u = -1 ↔ ∃ j, j < i ∧ nt xs j = u))) (k := K + 1) ?_ ?_
        · exact ⟨0, os3, pl3, [], _, rfl, by omega, by simp (disch := omega) only [go_sem, r0, r1, r5, r7, rd], h3, f3, rfl, Vec.nil, by simp [own], Tk.nil, fun u h1 h2 => by simp [in3 u h1 h2]⟩
        · rintro k ρ2 H4 ⟨i, os4, pl4, xs, w, rfl, hi, ⟨q0, q1, q5, q8, q9, qd⟩, h4, f4, hxs, hw, how, tk, hpl⟩
          have hi1 : (i : Int) + 1 = ((i + 1 : Nat) : Int) := by omega
          by_cases hit : i ≤ K
          · have t4 := h4.top (by omega)
            obtain ⟨x, hx⟩ : ∃ x : Nat, nt os4 0 = (x : Int) := ⟨(nt os4 0).toNat, by omega⟩
            simp (disch := omega) only [go_sem, q0, q1, q5, q8, q9, qd, hK]
            refine call_to (next_some h4 (by omega)) ?_
            rintro _ H5 ⟨rfl, f5, os5, pl5, h5, s5⟩
            rw [hx] at t4 s5 ⊢
            rw [Int.toNat_natCast] at t4 s5
            have f5' := fr_new f4 f5 (by simp; omega)
            have hw5 := hw.frame f5 (by intro b hb; have := how b hb; simp; omega)
            have hout : ¬ (1 ≤ (x : Int) ∧ (x : Int) ≤ (zs.length : Int) ∧ nt pl5 x ≠ -1) := by
              rintro ⟨_, _, h3⟩
              exact h3 ((s5 x).2 (.inr (by simp)))
            simp (disch := omega) only [go_sem, q0, q1, q5, q8, q9, qd]
            refine call_to (has_spec h5) ?_
            rintro _ _ ⟨rfl, rfl⟩
            simp (disch := omega) only [go_sem, q0, q1, q5, q8, q9, qd, hout, decide_false]
            refine app_lit1 T.el36 rfl hw5 rfl (by simp; omega) ?_
            rintro w6 H6 hw6 f6 o6 ⟨a6, c6, rfl⟩
            rw [List.length_map] at hw6 o6 ⊢
            have f6' := fr_new f5' f6 (fun b hb => (how b hb).1)
            have h6 := h5.frame f6 (fun h => (how _ h).2.1 rfl) (fun h => (how _ h).2.2.1 rfl) (fun h => (how _ h).2.2.2.1 rfl) (fun h => (how _ h).2.2.2.2 rfl)
            simp (disch := omega) only [go_sem, q0, q1, q5, q8, q9, qd]
            have l5 := h5.ha.self.lt
            have l6 := h5.ha.io.lt
            have l7 := h5.ha.ip.lt
            have l8 := h5.ha.ia.lt
            have s5' := f5'.size
            refine fin ⟨K + 1 - (i + 1), by omega, i + 1, os5, pl5, xs ++ [(x : Int)], .slice a6 (xs.length + 1) c6, rfl, by omega, by simp (disch := omega) only [go_sem, q0, q1, q5, q8, q9, qd, hi1], ?_, f6', by simp [hxs], by unfold IV; simpa using hw6, ?_, ?_, ?_⟩
            · have : zs.length - i - 1 = zs.length - (i + 1) := by omega
              rw [← this]; exact h6
            · intro b hb
              rcases o6 b hb with h | h
              · exact how b h
              · omega
            · have hpx := t4.2.2.1
              refine tk.more ⟨t4.1, t4.2.1⟩ ?_ ?_
              · intro j hj e
                exact hpx ((hpl x (by omega) (by omega)).2 ⟨j, by omega, e⟩)
              · intro u h1 h2 h3
                refine t4.2.2.2 u h1 h2 fun e => ?_
                obtain ⟨j, hj, ej⟩ := (hpl u h1 h2).1 e
                exact h3 j (by omega) ej
            · intro u h1 h2
              rw [s5 u, hpl u h1 h2]
              constructor
              · rintro (⟨j, hj, ej⟩ | e)
                · exact ⟨j, by omega, by rw [nt_append_left (by omega)]; exact ej⟩
                · exact ⟨i, by omega, by rw [← hxs, nt_append_right, e]⟩
              · rintro ⟨j, hj, ej⟩
                by_cases hji : j < i
                · rw [nt_append_left (by omega)] at ej
                  exact .inl ⟨j, hji, ej⟩
                · have : j = xs.length := by omega
                  subst this
                  rw [nt_append_right] at ej
                  right; omega
          · have hiK : i = K + 1 := by omega
            subst hiK
            obtain ⟨wa, wc, rfl⟩ := hw.form
            have hl1 : ((xs.length : Nat) : Int) - 1 = ((K + 1 : Nat) : Int) - 1 := by omega
            simp (disch := omega) only [go_sem, q0, q1, q5, q8, q9, qd, hK]
            refine loop_by (fun k ρ H5 => ∃ (os pl : List Int), k ≤ K + 1 ∧ (ρ.get 0 = .slice a zs.length c ∧ ρ.get 5 = hp p ∧ ρ.get 8 = .slice wa xs.length wc ∧ ρ.get 12 = iv ((k : Int) - 1) ∧ ρ.ds = []) ∧
              HG H5 p bo bp ba zs.length (zs.length - k) os pl ac3 ∧ Fr [] H H5 ∧ IV H5 3 (.slice wa xs.length wc) xs ∧ (∀ u : Nat, 1 ≤ u → u ≤ zs.length → (nt pl u = -1 ↔ ∃ j, j < k ∧ nt xs j = u))) (k := K + 1) ?_ ?_
            · exact ⟨os4, pl4, by omega, by simp (disch := omega) only [go_sem, q0, q1, q5, q8, q9, qd, hl1], h4, f4, hw, hpl⟩
            · rintro k ρ3 H5 ⟨os5, pl5, hk, ⟨x0, x5, x8, x12, xd⟩, h5, f5, hw5, hpl5⟩
              by_cases hk0 : 0 < k
              · obtain ⟨e, rfl⟩ : ∃ e, k = e + 1 := ⟨k - 1, by omega⟩
                have he : ((e + 1 : Nat) : Int) - 1 = (e : Int) := by omega
                obtain ⟨b5, o5, c5, ev, hc5⟩ := hw5.at (i := e) (by omega)
                simp only [Value.slice.injEq] at ev
                obtain ⟨rfl, _, rfl⟩ := ev
                have hre := tk.rng e (by omega)
                obtain ⟨y, hy⟩ : ∃ y : Nat, nt xs e = (y : Int) := ⟨(nt xs e).toNat, by omega⟩
                rw [hy] at hre hc5
                have hb5 := how b5 (by simp [own])
                simp (disch := omega) only [go_sem, x0, x5, x8, x12, xd, he, hc5]
                refine call_to (put_yes h5 (v := y) (by omega) (by omega) ((hpl5 y (by omega) (by omega)).2 ⟨e, by omega, hy⟩)) ?_
                rintro _ H6 ⟨rfl, f6, os6, pl6, h6, s6⟩
                have f6' := fr_new f5 f6 (by simp; omega)
                have hw6 := hw5.frame f6 (by simp [own]; omega)
                have hc6 := f6.cell' hc5 (by simp; omega)
                simp (disch := omega) only [go_sem, x0, x5, x8, x12, xd, he, hc6]
                refine call_to (put_no h6 (v := (y : Int)) ?_) ?_
                · rintro ⟨_, _, h⟩
                  exact ((s6 y).1 h).2 rfl
                rintro _ _ ⟨rfl, rfl⟩
                simp (disch := omega) only [go_sem, x0, x5, x8, x12, xd, he]
                refine fin ⟨e, by omega, os6, pl6, by omega, by simp (disch := omega) only [go_sem, x0, x5, x8, x12, xd, he], ?_, f6', hw6, ?_⟩
                · have : zs.length - (e + 1) + 1 = zs.length - e := by omega
                  rw [← this]; exact h6
                · intro u h1 h2
                  rw [s6 u, hpl5 u h1 h2]
                  constructor
                  · rintro ⟨⟨j, hj, ej⟩, hne⟩
                    refine ⟨j, ?_, ej⟩
                    rcases Nat.lt_or_ge j e with h | h
                    · exact h
                    · have : j = e := by omega
                      subst this
                      omega
                  · rintro ⟨j, hj, ej⟩
                    refine ⟨⟨j, by omega, ej⟩, ?_⟩
                    rintro rfl
                    exact tk.dist j e hj (by omega) (by omega)
              · have : k = 0 := by omega
                subst this
                simp (disch := omega) only [go_sem, x0, x5, x8, x12, xd]
                refine loop_by (fun k ρ H6 => ∃ (i : Nat) (os pl : List Int), k = K + 1 - i ∧ i ≤ K + 1 ∧ (ρ.get 0 = .slice a zs.length c ∧ ρ.get 5 = hp p ∧ ρ.get 8 = .slice wa xs.length wc ∧ ρ.get 13 = iv i ∧ ρ.ds = []) ∧
                  HG H6 p bo bp ba zs.length (zs.length - i) os pl ac3 ∧ Fr [] H H6 ∧ IV H6 3 (.slice wa xs.length wc) xs ∧ (∀ u : Nat, 1 ≤ u → u ≤ zs.length → (nt pl u = -1 ↔ ∃ j, j < i ∧ nt xs j = u))) (k := K + 1) ?_ ?_
                · exact ⟨0, os5, pl5, rfl, by omega, by simp (disch := omega) only [go_sem, x0, x5, x8, x12, xd], h5, f5, hw5, hpl5⟩
                · rintro k ρ4 H6 ⟨i, os6, pl6, rfl, hi6, ⟨y0, y5, y8, y13, yd⟩, h6, f6, hw6, hpl6⟩
                  have hi1' : (i : Int) + 1 = ((i + 1 : Nat) : Int) := by omega
                  by_cases hiK : i < K + 1
                  · have t6 := h6.top (by omega)
                    obtain ⟨b6, o6, c6, ev, hc6⟩ := hw6.at (i := i) (by omega)
                    simp only [Value.slice.injEq] at ev
                    obtain ⟨rfl, _, rfl⟩ := ev
                    have hb6 := how b6 (by simp [own])
                    have hri := tk.rng i (by omega)
                    obtain ⟨y, hy⟩ : ∃ y : Nat, nt xs i = (y : Int) := ⟨(nt xs i).toNat, by omega⟩
                    obtain ⟨x, hx⟩ : ∃ x : Nat, nt os6 0 = (x : Int) := ⟨(nt os6 0).toNat, by omega⟩
                    rw [hx] at t6
                    rw [Int.toNat_natCast] at t6
                    have e1 : (x : Int) = nt xs i := by
                      have g1 := t6.2.2.2 y (by omega) (by omega) (by
                        intro e
                        obtain ⟨j, hj, ej⟩ := (hpl6 y (by omega) (by omega)).1 e
                        exact tk.dist j i hj (by omega) (by omega))
                      have g2 := tk.best i (by omega) x (by omega) (by omega) (by
                        intro j hj ej
                        exact t6.2.2.1 ((hpl6 x (by omega) (by omega)).2 ⟨j, hj, ej⟩))
                      rw [hy] at g2 ⊢
                      unfold bf at g1 g2
                      omega
                    simp (disch := omega) only [go_sem, y0, y5, y8, y13, yd]
                    refine call_to (next_some h6 (by omega)) ?_
                    rintro _ H7 ⟨rfl, f7, os7, pl7, h7, s7⟩
                    have f7' := fr_new f6 f7 (by simp; omega)
                    have hw7 := hw6.frame f7 (by simp [own]; omega)
                    have hc7 := f7.cell' hc6 (by simp; omega)
                    rw [hx, e1] at s7 ⊢
                    simp (disch := omega) only [go_sem, y0, y5, y8, y13, yd, hc7]
                    refine fin ⟨K + 1 - (i + 1), by omega, i + 1, os7, pl7, rfl, by omega, by simp (disch := omega) only [go_sem, y0, y5, y8, y13, yd, hi1'], ?_, f7', hw7, ?_⟩
                    · have : zs.length - i - 1 = zs.length - (i + 1) := by omega
                      rw [← this]; exact h7
                    · intro u h1 h2
                      rw [s7 u, hpl6 u h1 h2]
                      constructor
                      · rintro (⟨j, hj, ej⟩ | e)
                        · exact ⟨j, by omega, ej⟩
                        · exact ⟨i, by omega, by omega⟩
                      · rintro ⟨j, hj, ej⟩
                        by_cases hji : j < i
                        · exact .inl ⟨j, hji, ej⟩
                        · have : j = i := by omega
                          subst this
                          right; omega
                  · have hlast : ((zs.length - i : Nat) : Int) = (zs.length : Int) - (xs.length : Int) := by omega
                    simp (disch := omega) only [go_sem, y0, y5, y8, y13, yd]
                    refine call_to (len_spec h6.ha) ?_
                    rintro _ _ ⟨rfl, rfl⟩
                    simp (disch := omega) only [go_sem, y0, y5, y8, y13, yd, dsB_of]
                    exact fin ⟨congrArg Value.bool (by simp; omega), f6⟩
end
end Go.Proofs.Ytlgcihoomacljaa
