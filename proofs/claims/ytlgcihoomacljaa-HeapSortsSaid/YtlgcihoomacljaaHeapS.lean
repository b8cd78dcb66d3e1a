/- The law that a heap sorts: that it returns true. -/
import Derived.Test.YtlgcihoomacljaaHeapL
namespace Go.Proofs.Ytlgcihoomacljaa
open Go.HL HM
set_option maxRecDepth 10000
set_option linter.unusedSimpArgs false

section
variable {H : Heap}
theorem sorts_spec {v0 : Value} {zs : List Int} (hv : ArgInts H .i64 v0 zs) :
    CallF Try.prog 4 [v0] H (fun r H' => r = .bool true ∧ Fr [] H H') NoP := by
  obtain ⟨a, c, rfl, hat⟩ := argCells hv
  refine callF_of Try.func4 rfl Try.ntmps4 Try.results4 (by decide) rfl ?_
  by_cases hz : 60 < zs.length
  · simp (disch := omega) only [go_sem]
    refine call_to awake_spec ?_
    rintro _ H1 ⟨rfl, f1⟩
    simp (disch := omega) only [go_sem]
    refine call_to awake_spec ?_
    rintro _ H2 ⟨rfl, f2⟩
    simp (disch := omega) only [go_sem]
    exact fin ⟨rfl, f1.trans f2⟩
  · simp (disch := omega) only [go_sem]
    refine call_to awake_spec ?_
    rintro _ H1 ⟨rfl, f1⟩
    simp (disch := omega) only [go_sem]
    refine call_to (new_yes (n := zs.length) (by omega)) ?_
    rintro _ H2 ⟨f2, p, bo, bp, ba, os, pl, rfl, hsz, h2, hin⟩
    have hs1 := f1.size
    simp (disch := omega) only [go_sem]
    refine loop_by (fun k ρ H3 => ∃ (j : Nat) (os pl ac : List Int), k = zs.length - j ∧ j ≤ zs.length ∧ (ρ.get 0 = .slice a zs.length c ∧ ρ.get 3 = hp p ∧ ρ.get 5 = iv j ∧ ρ.ds = []) ∧
      HG H3 p bo bp ba zs.length zs.length os pl ac ∧ Fr [] H H3 ∧ (∀ u, 1 ≤ u → u ≤ zs.length → nt pl u ≠ -1)) (k := zs.length) ?_ ?_
    · exact ⟨0, os, pl, _, rfl, by omega, by simp (disch := omega) only [go_sem], h2, f1.trans f2, hin⟩
    · rintro k ρ H3 ⟨j, os3, pl3, ac3, rfl, hj, ⟨r0, r3, r5, rd⟩, h3, f3, in3⟩
      by_cases hjn : j < zs.length
      · obtain ⟨b, o, ea, hc⟩ := hat j hjn
        subst ea
        have cj := f3.cell' hc (by simp)
        have hb := hv.bnd hjn
        have hj1 : (j : Int) + 1 = ((j + 1 : Nat) : Int) := by omega
        simp (disch := omega) only [go_sem, r0, r3, r5, rd]
        refine draw1 (lk [(0, true), (1, true), (2, true), (3, true), (4, true), (5, true), (6, true), (8, false), (9, false), (10, false), (11, false), (12, false)] (.act 7 (lk [(13, true)] .fin) .non)) T.mixed [(⟨b, o + j, none⟩, .int .i64 (nt zs j))] (heldOK_one cj) ?_
        by_cases hneg : 0 ≤ nt zs j
        · simp (disch := omega) only [go_sem, r0, r3, r5, rd, cj]
          rw [hj1]
          refine call_to (bump_yes h3 (v := j + 1) (by omega) (by omega) (by omega) (by omega)) ?_
          rintro _ H4 ⟨rfl, f4, os4, pl4, h4, s4⟩
          have f4' := fr_new f3 f4 (by simp; omega)
          refine held_by (heldOK_one (f4'.cell' hc (by simp))) ?_
          simp (disch := omega) only [go_sem, r0, r3, r5, rd]
          exact fin ⟨zs.length - (j + 1), by omega, j + 1, os4, pl4, _, rfl, by omega, by simp (disch := omega) only [go_sem, r0, r3, r5, rd, hj1], h4, f4', fun u h1 h2 => by rw [Ne, s4]; exact in3 u h1 h2⟩
        · simp (disch := omega) only [go_sem, r0, r3, r5, rd, cj]
          rw [hj1]
          refine call_to (bump_no h3 (v := ((j + 1 : Nat) : Int)) (d := nt zs j) (by omega)) ?_
          rintro _ _ ⟨rfl, rfl⟩
          refine held_by (heldOK_one cj) ?_
          simp (disch := omega) only [go_sem, r0, r3, r5, rd]
          exact fin ⟨zs.length - (j + 1), by omega, j + 1, os3, pl3, _, rfl, by omega, by simp (disch := omega) only [go_sem, r0, r3, r5, rd, hj1], h3, f3, in3⟩
      · simp (disch := omega) only [go_sem, r0, r3, r5, rd]
        refine loop_by (fun k ρ H4 => ∃ (j : Nat) (la : Int) (os pl : List Int), k = zs.length - j ∧ j ≤ zs.length ∧ (ρ.get 0 = .slice a zs.length c ∧ ρ.get 3 = hp p ∧ ρ.get 6 = iv la ∧ ρ.get 7 = iv j ∧ ρ.ds = []) ∧
          HG H4 p bo bp ba zs.length (zs.length - j) os pl ac3 ∧ Fr [] H H4 ∧ 0 ≤ la ∧ la ≤ zs.length ∧ (0 < la → ∀ u : Nat, 1 ≤ u → u ≤ zs.length → nt pl u ≠ -1 → ¬ bf (nt ac3) u la)) (k := zs.length) ?_ ?_
        · exact ⟨0, 0, os3, pl3, rfl, by omega, by simp (disch := omega) only [go_sem, r0, r3, r5, rd], h3, f3, by omega, by omega, by omega⟩
        · rintro k ρ2 H4 ⟨i, la, os4, pl4, rfl, hi, ⟨q0, q3, q6, q7, qd⟩, h4, f4, la0, la1, hla⟩
          by_cases hin2 : i < zs.length
          · have t4 := h4.top (by omega)
            obtain ⟨w, hw⟩ : ∃ w : Nat, nt os4 0 = (w : Int) := ⟨(nt os4 0).toNat, by omega⟩
            simp (disch := omega) only [go_sem, q0, q3, q6, q7, qd]
            refine call_to (next_some h4 (by omega)) ?_
            rintro _ H5 ⟨rfl, f5, os5, pl5, h5, s5⟩
            rw [hw] at t4 s5 ⊢
            have f5' := fr_new f4 f5 (by simp; omega)
            have hout : ¬ (1 ≤ (w : Int) ∧ (w : Int) ≤ (zs.length : Int) ∧ nt pl5 w ≠ -1) := by
              rintro ⟨_, _, h3⟩
              exact h3 ((s5 w).2 (.inr (by simp)))
            simp (disch := omega) only [go_sem, q0, q3, q6, q7, qd]
            refine call_to (has_spec h5) ?_
            rintro _ _ ⟨rfl, rfl⟩
            have fin' : ∀ (ρ3 : En), ρ3.get 0 = .slice a zs.length c ∧ ρ3.get 3 = hp p ∧ ρ3.get 6 = iv w ∧ ρ3.get 7 = iv ((i + 1 : Nat) : Int) ∧ ρ3.ds = [] →
              ∃ (j : Nat) (la : Int) (os pl : List Int), zs.length - (i + 1) = zs.length - j ∧ j ≤ zs.length ∧ (ρ3.get 0 = .slice a zs.length c ∧ ρ3.get 3 = hp p ∧ ρ3.get 6 = iv la ∧ ρ3.get 7 = iv j ∧ ρ3.ds = []) ∧
              HG H5 p bo bp ba zs.length (zs.length - j) os pl ac3 ∧ Fr [] H H5 ∧ 0 ≤ la ∧ la ≤ zs.length ∧ (0 < la → ∀ u : Nat, 1 ≤ u → u ≤ zs.length → nt pl u ≠ -1 → ¬ bf (nt ac3) u la) := by
              intro ρ3 hr
              refine ⟨i + 1, w, os5, pl5, rfl, by omega, hr, ?_, f5', by omega, by omega, ?_⟩
              · have : zs.length - i - 1 = zs.length - (i + 1) := by omega
                rw [← this]; exact h5
              · intro _ u h1 h2 h3
                exact t4.2.2.2 u h1 h2 (fun e => h3 ((s5 u).2 (.inl e)))
            have hi1 : (i : Int) + 1 = ((i + 1 : Nat) : Int) := by omega
            by_cases hl0 : 0 < la
            · have no := hla hl0 w (by omega) (by omega) (by have := t4.2.2.1; simpa using this)
              unfold bf at no
              rw [Int.toNat_natCast] at no
              have ew : nt ac3 la.toNat ≥ nt ac3 w := by omega
              simp (disch := omega) only [go_sem, q0, q3, q6, q7, qd, hout, not_false_eq_true, decide_true, decide_false]
              refine call_to (activity_spec h5.ha) ?_
              rintro _ _ ⟨rfl, rfl⟩
              simp (disch := omega) only [go_sem, q0, q3, q6, q7, qd]
              refine call_to (activity_spec h5.ha) ?_
              rintro _ _ ⟨rfl, rfl⟩
              simp (disch := omega) only [go_sem, q0, q3, q6, q7, qd]
              refine call_to (activity_spec h5.ha) ?_
              rintro _ _ ⟨rfl, rfl⟩
              simp (disch := omega) only [go_sem, q0, q3, q6, q7, qd]
              refine call_to (activity_spec h5.ha) ?_
              rintro _ _ ⟨rfl, rfl⟩
              by_cases heq : nt ac3 la.toNat = nt ac3 w
              · simp (disch := omega) only [go_sem, q0, q3, q6, q7, qd]
                exact fin ⟨_, by omega, fin' _ (by simp (disch := omega) only [go_sem, q0, q3, q6, q7, qd, hi1])⟩
              · simp (disch := omega) only [go_sem, q0, q3, q6, q7, qd]
                exact fin ⟨_, by omega, fin' _ (by simp (disch := omega) only [go_sem, q0, q3, q6, q7, qd, hi1])⟩
            · simp (disch := omega) only [go_sem, q0, q3, q6, q7, qd, hout, not_false_eq_true, decide_true, decide_false]
              exact fin ⟨_, by omega, fin' _ (by simp (disch := omega) only [go_sem, q0, q3, q6, q7, qd, hi1])⟩
          · have e0 : zs.length - i = 0 := by omega
            rw [e0] at h4
            simp (disch := omega) only [go_sem, q0, q3, q6, q7, qd]
            refine call_to (next_none h4) ?_
            rintro _ _ ⟨rfl, rfl⟩
            simp (disch := omega) only [go_sem, q0, q3, q6, q7, qd]
            refine call_to (len_spec h4.ha) ?_
            rintro _ _ ⟨rfl, rfl⟩
            simp (disch := omega) only [go_sem, q0, q3, q6, q7, qd, dsB_of]
            exact fin ⟨rfl, f4⟩
end
end Go.Proofs.Ytlgcihoomacljaa
