/- The law that a heap is halved: that it returns true. -/
import Derived.Test.YtlgcihoomacljaaHeapL
namespace Go.Proofs.Ytlgcihoomacljaa
open Go.HL HM
set_option maxRecDepth 10000
set_option linter.unusedSimpArgs false

section
variable {H : Heap} {p bo bp ba n m : Nat} {os pl ac : List Int}
theorem set_same {xs : List Int} {v : Nat} {x : Int} (hv : v < xs.length) (h : x = nt xs v) : xs.set v x = xs := by
  subst h
  apply List.ext_getElem?
  intro i
  rw [List.getElem?_set]
  split
  · rename_i e; subst e; simp [hv, nt]
  · rfl
theorem bump_any (h : HG H p bo bp ba n m os pl ac) {v : Nat} {d : Int} (hv1 : 1 ≤ v) (hv2 : v ≤ n) (hd2 : d ≤ 9223372036854775807) :
    CallF Try.prog 10 [hp p, iv v, iv d] H (fun _ H' => Fr [bo, bp, ba] H H' ∧
      ∃ os' pl', HG H' p bo bp ba n m os' pl' (ac.set v (min (nt ac v + max d 0) 1152921504606846976)) ∧ ∀ u, (nt pl' u = -1 ↔ nt pl u = -1)) NoP := by
  by_cases hd : 0 ≤ d
  · refine (bump_yes h hv1 hv2 hd hd2).to ?_
    rintro _ H2 ⟨rfl, f2, os2, pl2, h2, s2⟩
    rw [Int.max_eq_left hd]
    exact ⟨f2, os2, pl2, h2, s2⟩
  · refine (bump_no h (by omega)).to ?_
    rintro _ _ ⟨rfl, rfl⟩
    have := h.act v hv2
    rw [set_same (by rw [h.ha.la]; omega) (by omega)]
    exact ⟨Fr.refl _ _, os, pl, h, fun _ => Iff.rfl⟩

def it2 : Nat → Int → Int
  | 0, x => x
  | k + 1, x => it2 k x / 2
theorem nt_map2 {xs : List Int} {v : Nat} : nt (xs.map (· / 2)) v = nt xs v / 2 := by
  unfold nt
  rw [List.getD_eq_getElem?_getD, List.getD_eq_getElem?_getD, List.getElem?_map]
  cases xs[v]? <;> rfl
theorem it2_rng {x : Int} (h : 0 ≤ x ∧ x ≤ 1152921504606846976) : ∀ k, 0 ≤ it2 k x ∧ it2 k x ≤ 1152921504606846976 := by
  intro k
  induction k with
  | zero => exact h
  | succ k ih => unfold it2; omega

theorem halves_spec {v0 : Value} {zs : List Int} {tm : Int} (hv : ArgInts H .i64 v0 zs) (ha : 0 ≤ tm ∧ tm ≤ 255) :
    CallF Try.prog 6 [v0, .int .u8 tm] H (fun r H' => r = .bool true ∧ Fr [] H H') NoP := by
  obtain ⟨a, c, rfl, hat⟩ := argCells hv
  obtain ⟨T, hT⟩ : ∃ T : Nat, tm % 70 = (T : Int) := ⟨(tm % 70).toNat, by omega⟩
  have hT2 : T < 70 := by omega
  refine callF_of Try.func6 rfl Try.ntmps6 Try.results6 (by decide) rfl ?_
  by_cases hz : 40 < zs.length
  · simp (disch := omega) only [go_sem, ↓cw_block]
    refine call_to awake_spec ?_
    rintro _ H1 ⟨rfl, f1⟩
    simp (disch := omega) only [go_sem, ↓cw_block]
    refine call_to awake_spec ?_
    rintro _ H2 ⟨rfl, f2⟩
    simp (disch := omega) only [go_sem, ↓cw_block]
    exact fin ⟨rfl, f1.trans f2⟩
  · simp (disch := omega) only [go_sem, ↓cw_block]
    refine call_to awake_spec ?_
    rintro _ H1 ⟨rfl, f1⟩
    simp (disch := omega) only [go_sem, ↓cw_block]
    refine call_to (new_yes (n := zs.length) (by omega)) ?_
    rintro _ H2 ⟨f2, p, bo, bp, ba, os, pl, rfl, hsz, h2, hin⟩
    have hs1 := f1.size
    simp (disch := omega) only [go_sem, ↓cw_block]
    refine loop_by (fun k ρ H3 => ∃ (j : Nat) (os pl ac : List Int), k = zs.length - j ∧ j ≤ zs.length ∧ (ρ.get 0 = .slice a zs.length c ∧ ρ.get 1 = .int .u8 tm ∧ ρ.get 5 = hp p ∧ ρ.get 7 = iv j ∧ ρ.ds = []) ∧
      HG H3 p bo bp ba zs.length zs.length os pl ac ∧ Fr [] H H3 ∧ (∀ u, u < j → nt ac (u + 1) = min (max (nt zs u) 0) 1152921504606846976) ∧ (∀ u, j < u → nt ac u = 0)) (k := zs.length) ?_ ?_
    · exact ⟨0, os, pl, _, rfl, by omega, by simp (disch := omega) only [go_sem, ↓cw_block], h2, f1.trans f2, by omega, fun u _ => nt_rep0⟩
    · rintro k ρ H3 ⟨j, os3, pl3, ac3, rfl, hj, ⟨r0, r1, r5, r7, rd⟩, h3, f3, le3, z3⟩
      by_cases hjn : j < zs.length
      · obtain ⟨b, o, ea, hc⟩ := hat j hjn
        subst ea
        have cj := f3.cell' hc (by simp)
        have hb := hv.bnd hjn
        have hj1 : (j : Int) + 1 = ((j + 1 : Nat) : Int) := by omega
        simp (disch := omega) only [go_sem, ↓cw_block, r0, r1, r5, r7, rd, cj]
        rw [hj1]
        refine call_to (bump_any h3 (v := j + 1) (by omega) (by omega) (by omega)) ?_
        rintro _ H4 ⟨f4, os4, pl4, h4, s4⟩
        simp (disch := omega) only [go_sem, ↓cw_block, r0, r1, r5, r7, rd]
        have hla := h3.ha.la
        refine fin ⟨zs.length - (j + 1), by omega, j + 1, os4, pl4, _, rfl, by omega, by simp (disch := omega) only [go_sem, ↓cw_block, r0, r1, r5, r7, rd, hj1], h4, fr_new f3 f4 (by simp; omega), ?_, ?_⟩
        · intro u hu
          rw [nt_set (by omega)]
          unfold up1
          split
          · have : u = j := by omega
            subst this
            rw [z3 (u + 1) (by omega)]; omega
          · exact le3 u (by omega)
        · intro u hu
          rw [nt_set_ne (by omega)]
          exact z3 u (by omega)
      · simp (disch := omega) only [go_sem, ↓cw_block, r0, r1, r5, r7, rd]
        refine loop_by (fun k ρ H4 => ∃ (i : Nat) (os pl ac : List Int), k = T - i ∧ i ≤ T ∧ (ρ.get 0 = .slice a zs.length c ∧ ρ.get 1 = .int .u8 tm ∧ ρ.get 5 = hp p ∧ ρ.get 8 = iv i ∧ ρ.ds = []) ∧
          HG H4 p bo bp ba zs.length zs.length os pl ac ∧ Fr [] H H4 ∧ (∀ u, u < zs.length → nt ac (u + 1) = it2 i (min (max (nt zs u) 0) 1152921504606846976))) (k := T) ?_ ?_
        · exact ⟨0, os3, pl3, ac3, rfl, by omega, by simp (disch := omega) only [go_sem, ↓cw_block, r0, r1, r5, r7, rd], h3, f3, fun u hu => le3 u (by omega)⟩
        · rintro k ρ2 H4 ⟨i, os4, pl4, ac4, rfl, hi, ⟨q0, q1, q5, q8, qd⟩, h4, f4, le4⟩
          have hi1 : (i : Int) + 1 = ((i + 1 : Nat) : Int) := by omega
          by_cases hit : i < T
          · simp (disch := omega) only [go_sem, ↓cw_block, q0, q1, q5, q8, qd, hT]
            refine call_to (halve_spec h4) ?_
            rintro _ H5 ⟨rfl, f5, os5, pl5, h5, s5⟩
            simp (disch := omega) only [go_sem, ↓cw_block, q0, q1, q5, q8, qd]
            refine fin ⟨T - (i + 1), by omega, i + 1, os5, pl5, _, rfl, by omega, by simp (disch := omega) only [go_sem, ↓cw_block, q0, q1, q5, q8, qd, hi1], h5, fr_new f4 f5 (by simp; omega), ?_⟩
            intro u hu
            rw [nt_map2, le4 u hu]
            rfl
          · have : i = T := by omega
            subst this
            simp (disch := omega) only [go_sem, ↓cw_block, q0, q1, q5, q8, qd, hT]
            refine loop_by (fun k ρ H5 => ∃ (j : Nat), k = zs.length - j ∧ j ≤ zs.length ∧ H4 = H5 ∧ (ρ.get 0 = .slice a zs.length c ∧ ρ.get 1 = .int .u8 tm ∧ ρ.get 5 = hp p ∧ ρ.get 9 = iv j ∧ ρ.ds = [])) (k := zs.length) ?_ ?_
            · exact ⟨0, rfl, by omega, rfl, by simp (disch := omega) only [go_sem, ↓cw_block, q0, q1, q5, q8, qd]⟩
            · rintro k ρ3 _ ⟨j, rfl, hj3, rfl, ⟨w0, w1, w5, w9, wd⟩⟩
              by_cases hjn3 : j < zs.length
              · obtain ⟨b, o, ea, hc⟩ := hat j hjn3
                subst ea
                have cj := f4.cell' hc (by simp)
                have hb := hv.bnd hjn3
                simp (disch := omega) only [go_sem, ↓cw_block, w0, w1, w5, w9, wd, cj]
                refine loop_by (fun k ρ H5 => ∃ (e : Nat), k = i - e ∧ e ≤ i ∧ H4 = H5 ∧ (ρ.get 0 = .slice (some ⟨b, o, none⟩) zs.length c ∧ ρ.get 1 = .int .u8 tm ∧ ρ.get 5 = hp p ∧ ρ.get 9 = iv j ∧ ρ.get 11 = iv e ∧
                  ρ.get 10 = iv (it2 e (min (max (nt zs j) 0) 1152921504606846976)) ∧ ρ.ds = [])) (k := i) ?_ ?_
                · exact ⟨0, rfl, by omega, rfl, by simp (disch := omega) only [go_sem, ↓cw_block, w0, w1, w5, w9, wd, it2]⟩
                · rintro k ρ4 _ ⟨e, rfl, he, rfl, ⟨x0, x1, x5, x9, x11, x10, xd⟩⟩
                  have he1 : (e : Int) + 1 = ((e + 1 : Nat) : Int) := by omega
                  have hr := it2_rng (x := min (max (nt zs j) 0) 1152921504606846976) (by omega) e
                  by_cases hei : e < i
                  · simp (disch := omega) only [go_sem, ↓cw_block, x0, x1, x5, x9, x11, x10, xd, hT]
                    exact fin ⟨i - (e + 1), by omega, e + 1, rfl, by omega, rfl, by simp (disch := omega) only [go_sem, ↓cw_block, x0, x1, x5, x9, x11, x10, xd, he1, it2]⟩
                  · have : e = i := by omega
                    subst this
                    have hj1 : (j : Int) + 1 = ((j + 1 : Nat) : Int) := by omega
                    simp (disch := omega) only [go_sem, ↓cw_block, x0, x1, x5, x9, x11, x10, xd, hT]
                    rw [hj1]
                    refine call_to (activity_spec h4.ha) ?_
                    rintro _ _ ⟨rfl, rfl⟩
                    have ea : (if (1 : Int) ≤ ((j + 1 : Nat) : Int) ∧ ((j + 1 : Nat) : Int) ≤ (zs.length : Int) then nt ac4 ((j + 1 : Nat) : Int).toNat else 0) = it2 e (min (max (nt zs j) 0) 1152921504606846976) := by
                      rw [if_pos (by omega), Int.toNat_natCast, le4 j hjn3]
                    rw [ea]
                    simp (disch := omega) only [go_sem, ↓cw_block, x0, x1, x5, x9, x11, x10, xd]
                    exact fin ⟨zs.length - (j + 1), by omega, j + 1, rfl, by omega, rfl, by simp (disch := omega) only [go_sem, ↓cw_block, x0, x1, x5, x9, x11, x10, xd, hj1]⟩
              · simp (disch := omega) only [go_sem, ↓cw_block, w0, w1, w5, w9, wd]
                refine call_to (len_spec h4.ha) ?_
                rintro _ _ ⟨rfl, rfl⟩
                simp (disch := omega) only [go_sem, ↓cw_block, w0, w1, w5, w9, wd, dsB_of]
                exact fin ⟨rfl, f4⟩
end
end Go.Proofs.Ytlgcihoomacljaa
