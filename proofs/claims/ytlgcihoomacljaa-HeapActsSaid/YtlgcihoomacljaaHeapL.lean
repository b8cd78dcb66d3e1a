/- The laws on heaps: that each returns true. -/
import Derived.Test.YtlgcihoomacljaaHeapB
import Derived.Test.YtlgcihoomacljaaLift
namespace Go.Proofs.Ytlgcihoomacljaa
open Go.HL HM
set_option maxRecDepth 10000
set_option linter.unusedSimpArgs false

section
variable {H : Heap} {p bo bp ba n m : Nat} {os pl ac : List Int}
/-- The first one is contained, and before all that are. -/
theorem HG.top (h : HG H p bo bp ba n m os pl ac) (hm : 0 < m) : 1 ≤ nt os 0 ∧ nt os 0 ≤ n ∧ nt pl (nt os 0).toNat ≠ -1 ∧ ∀ u : Nat, 1 ≤ u → u ≤ n → nt pl u ≠ -1 → ¬ bf (nt ac) u (nt os 0) := by
  have r0 := h.ok.rng 0 hm
  refine ⟨r0.1, r0.2.1, by rw [r0.2.2]; omega, ?_⟩
  intro u h1 h2 h3
  rcases h.ok.pos u h1 h2 with h4 | ⟨h4, h5, h6⟩
  · exact absurd h4 h3
  · have := h.ord.top (nt pl u).toNat (by omega)
    rwa [h6] at this
theorem HG.none (h : HG H p bo bp ba n 0 os pl ac) : ∀ u : Nat, 1 ≤ u → u ≤ n → nt pl u = -1 := by
  intro u h1 h2
  rcases h.ok.pos u h1 h2 with h4 | ⟨h4, h5, h6⟩
  · exact h4
  · omega
theorem nt_rep0 {n v : Nat} : nt (List.replicate n 0) v = 0 := by
  unfold nt; rw [List.getD_eq_getElem?_getD, List.getElem?_replicate]; split <;> rfl

theorem awake_spec : CallF Try.prog 8 [] H (fun r H' => r = .bool true ∧ Fr [] H H') NoP := by
  refine callF_of Try.func8 rfl Try.ntmps8 Try.results8 (by decide) rfl ?_
  simp (disch := omega) only [go_sem, ↓cw_block]
  refine call_to (new_yes (n := 3) (by omega)) ?_
  rintro _ H1 ⟨f1, p, bo, bp, ba, os, pl, rfl, hsz, h1, hin⟩
  simp (disch := omega) only [go_sem, ↓cw_block]
  refine call_to (bump_yes h1 (v := 2) (d := 5) (by omega) (by omega) (by omega) (by omega)) ?_
  rintro _ H2 ⟨rfl, f2, os2, pl2, h2, s2⟩
  simp (disch := omega) only [go_sem, ↓cw_block]
  have t2 := h2.top (by omega)
  refine call_to (next_some h2 (by omega)) ?_
  rintro _ H3 ⟨rfl, f3, os3, pl3, h3, s3⟩
  have hA : ∀ v, nt ((List.replicate 4 0).set 2 (min (nt (List.replicate 4 0) 2 + 5) 1152921504606846976)) v = if v = 2 then 5 else 0 := by
    intro v
    rw [nt_set (by simp)]
    unfold up1
    rw [nt_rep0, nt_rep0]
    split <;> rfl
  have e2 : nt os2 0 = 2 := by
    have := t2.2.2.2 2 (by omega) (by omega) (by rw [Ne, s2]; exact hin 2 (by omega) (by omega))
    unfold bf at this
    rw [hA, hA] at this
    have h' := t2.1
    split at this <;> simp at this <;> omega
  rw [e2] at s3
  simp (disch := omega) only [go_sem, ↓cw_block]
  have t3 := h3.top (by omega)
  refine call_to (next_some h3 (by omega)) ?_
  rintro _ H4 ⟨rfl, f4, os4, pl4, h4, s4⟩
  have e3 : nt os3 0 = 1 := by
    have := t3.2.2.2 1 (by omega) (by omega) (by rw [Ne, s3, s2]; have := hin 1 (by omega) (by omega); simp [this])
    unfold bf at this
    rw [hA, hA] at this
    have h' := t3.1
    have h'' := t3.2.2.1
    rw [Ne, s3] at h''
    have h3' : nt os3 0 ≠ 2 := by intro e; rw [e] at h''; simp at h''
    split at this <;> simp at this <;> omega
  rw [e3] at s4
  simp (disch := omega) only [go_sem, ↓cw_block]
  have t4 := h4.top (by omega)
  refine call_to (next_some h4 (by omega)) ?_
  rintro _ H5 ⟨rfl, f5, os5, pl5, h5, s5⟩
  have e4 : nt os4 0 = 3 := by
    have h'' := t4.2.2.1
    rw [Ne, s4, s3] at h''
    have h1' := t4.1
    have h2' := t4.2.1
    have h3' : nt os4 0 ≠ 2 := by intro e; rw [e] at h''; simp at h''
    have h4' : nt os4 0 ≠ 1 := by intro e; rw [e] at h''; simp at h''
    omega
  simp (disch := omega) only [go_sem, ↓cw_block, e2, e3, e4]
  refine call_to (len_spec h5.ha) ?_
  rintro _ _ ⟨rfl, rfl⟩
  simp (disch := omega) only [go_sem, ↓cw_block]
  refine fin ⟨rfl, ?_⟩
  have mono : ∀ (F : List Nat) (Ha Hb : Heap), Fr [] H Ha → Fr F Ha Hb → (∀ b ∈ F, H.size ≤ b) → Fr [] H Hb := by
    intro F Ha Hb g1 g2 hF
    refine ⟨Nat.le_trans g1.size g2.size, fun b hb _ => ?_⟩
    rw [g2.same b (Nat.lt_of_lt_of_le hb g1.size) (fun h => by have := hF b h; omega)]
    exact g1.same b hb (by simp)
  have g2 := mono _ _ _ f1 f2 (by simp; omega)
  have g3 := mono _ _ _ g2 f3 (by simp; omega)
  have g4 := mono _ _ _ g3 f4 (by simp; omega)
  exact mono _ _ _ g4 f5 (by simp; omega)

theorem fr_new {F : List Nat} {H Ha Hb : Heap} (g1 : Fr [] H Ha) (g2 : Fr F Ha Hb) (hF : ∀ b ∈ F, H.size ≤ b) : Fr [] H Hb := by
  refine ⟨Nat.le_trans g1.size g2.size, fun b hb _ => ?_⟩
  rw [g2.same b (Nat.lt_of_lt_of_le hb g1.size) (fun h => by have := hF b h; omega)]
  exact g1.same b hb (by simp)
theorem most_spec {v0 : Value} {zs : List Int} {at' : Int} (hv : ArgInts H .i64 v0 zs) (ha : 0 ≤ at' ∧ at' ≤ 255) :
    CallF Try.prog 3 [v0, .int .u8 at'] H (fun r H' => r = .bool true ∧ Fr [] H H') NoP := by
  refine callF_of Try.func3 rfl Try.ntmps3 Try.results3 (by decide) rfl ?_
  by_cases hz : zs.length = 0 ∨ 40 < zs.length
  · obtain ⟨a, c, rfl⟩ := hv.form
    simp (disch := omega) only [go_sem, ↓cw_block]
    refine call_to awake_spec ?_
    rintro _ H1 ⟨rfl, f1⟩
    by_cases h0 : 40 < zs.length
    · simp (disch := omega) only [go_sem, ↓cw_block]
      refine call_to awake_spec ?_
      rintro _ H2 ⟨rfl, f2⟩
      simp (disch := omega) only [go_sem, ↓cw_block]
      exact fin ⟨rfl, f1.trans f2⟩
    · simp (disch := omega) only [go_sem, ↓cw_block]
      refine call_to awake_spec ?_
      rintro _ H2 ⟨rfl, f2⟩
      simp (disch := omega) only [go_sem, ↓cw_block]
      exact fin ⟨rfl, f1.trans f2⟩
  · obtain ⟨b, o, c, rfl, hc⟩ := hv.some (by omega)
    simp (disch := omega) only [go_sem, ↓cw_block]
    refine call_to awake_spec ?_
    rintro _ H1 ⟨rfl, f1⟩
    simp (disch := omega) only [go_sem, ↓cw_block]
    refine call_to (new_yes (n := zs.length) (by omega)) ?_
    rintro _ H2 ⟨f2, p, bo, bp, ba, os, pl, rfl, hsz, h2, hin⟩
    have hs1 := f1.size
    simp (disch := omega) only [go_sem, ↓cw_block]
    refine loop_by (fun k ρ H3 => ∃ (j : Nat) (os pl ac : List Int), k = zs.length - j ∧ j ≤ zs.length ∧ (ρ.get 0 = .slice (some ⟨b, o, none⟩) zs.length c ∧ ρ.get 1 = .int .u8 at' ∧ ρ.get 5 = hp p ∧ ρ.get 7 = iv j ∧ ρ.ds = []) ∧
      HG H3 p bo bp ba zs.length zs.length os pl ac ∧ Fr [] H H3 ∧ (∀ u, 1 ≤ u → u ≤ zs.length → nt pl u ≠ -1) ∧ (∀ u, nt ac u ≤ 1125899906842624) ∧ (∀ u, j < u → nt ac u = 0)) (k := zs.length) ?_ ?_
    · exact ⟨0, os, pl, _, rfl, by omega, by simp (disch := omega) only [go_sem, ↓cw_block], h2, f1.trans f2, hin, fun u => by rw [nt_rep0]; omega, fun u _ => nt_rep0⟩
    · rintro k ρ H3 ⟨j, os3, pl3, ac3, rfl, hj, ⟨r0, r1, r5, r7, rd⟩, h3, f3, in3, le3, z3⟩
      by_cases hjn : j < zs.length
      · have cj := f3.cell' (hc j hjn) (by simp)
        have hb := hv.bnd hjn
        have hj1 : (j : Int) + 1 = ((j + 1 : Nat) : Int) := by omega
        simp (disch := omega) only [go_sem, ↓cw_block, r0, r1, r5, r7, rd, cj]
        rw [hj1]
        refine call_to (bump_yes h3 (v := j + 1) (by omega) (by omega) (by omega) (by omega)) ?_
        rintro _ H4 ⟨rfl, f4, os4, pl4, h4, s4⟩
        simp (disch := omega) only [go_sem, ↓cw_block, r0, r1, r5, r7, rd]
        refine fin ⟨zs.length - (j + 1), by omega, j + 1, os4, pl4, _, rfl, by omega, by simp (disch := omega) only [go_sem, ↓cw_block, r0, r1, r5, r7, rd, hj1], h4, fr_new f3 f4 (by simp; omega), fun u h1 h2 => by rw [Ne, s4]; exact in3 u h1 h2, ?_, ?_⟩
        · intro u
          rw [nt_set (by rw [h3.ha.la]; omega)]
          unfold up1
          split
          · rw [z3 (j + 1) (by omega)]; omega
          · exact le3 u
        · intro u hu
          rw [nt_set_ne (by omega)]
          exact z3 u (by omega)
      · have hr0 := Int.emod_nonneg at' (b := (zs.length : Int)) (by omega)
        have hr1 := Int.emod_lt_of_pos at' (b := (zs.length : Int)) (by omega)
        obtain ⟨v, hv'⟩ : ∃ v : Nat, 1 + at' % (zs.length : Int) = (v : Int) := ⟨(1 + at' % (zs.length : Int)).toNat, by omega⟩
        have hv1 : 1 ≤ v := by omega
        have hv2 : v ≤ zs.length := by omega
        have nv := in3 v hv1 hv2
        simp (disch := omega) only [go_sem, ↓cw_block, r0, r1, r5, r7, rd, hv']
        refine call_to (bump_yes h3 (v := v) hv1 hv2 (by omega) (by omega)) ?_
        rintro _ H4 ⟨rfl, f4, os4, pl4, h4, s4⟩
        have f4' := fr_new f3 f4 (by simp; omega)
        simp (disch := omega) only [go_sem, ↓cw_block, r0, r1, r5, r7, rd]
        have t4 := h4.top (by omega)
        refine call_to (next_some h4 (by omega)) ?_
        rintro _ H5 ⟨rfl, f5, os5, pl5, h5, s5⟩
        have f5' := fr_new f4' f5 (by simp; omega)
        have e4 : nt os4 0 = v := by
          have h1 := t4.2.2.2 v hv1 hv2 (by rw [Ne, s4]; exact nv)
          have hla := h3.ha.la
          have eA : ∀ u, nt (ac3.set v (min (nt ac3 v + 36028797018963968) 1152921504606846976)) u = if u = v then min (nt ac3 v + 36028797018963968) 1152921504606846976 else nt ac3 u := by
            intro u; rw [nt_set (by omega)]; rfl
          unfold bf at h1
          rw [eA, eA, Int.toNat_natCast, if_pos rfl] at h1
          have h2 := t4.1
          have h3' := h3.act v hv2
          have h4' := le3 (nt os4 0).toNat
          split at h1
          · omega
          · omega
        rw [e4, Int.toNat_natCast] at s5
        simp (disch := omega) only [go_sem, ↓cw_block, r0, r1, r5, r7, rd, e4]
        refine call_to (has_spec h5) ?_
        rintro _ _ ⟨rfl, rfl⟩
        have hout : ¬ (1 ≤ (v : Int) ∧ (v : Int) ≤ (zs.length : Int) ∧ nt pl5 v ≠ -1) := by
          rintro ⟨_, _, h3⟩
          exact h3 ((s5 v).2 (.inr rfl))
        simp (disch := omega) only [go_sem, ↓cw_block, r0, r1, r5, r7, rd, hout, not_false_eq_true, decide_true]
        refine call_to (len_spec h5.ha) ?_
        rintro _ _ ⟨rfl, rfl⟩
        simp (disch := omega) only [go_sem, ↓cw_block, r0, r1, r5, r7, rd, hout, not_false_eq_true, decide_true, dsB_of]
        exact fin ⟨congrArg Value.bool (by simp; omega), f5'⟩
end
end Go.Proofs.Ytlgcihoomacljaa
