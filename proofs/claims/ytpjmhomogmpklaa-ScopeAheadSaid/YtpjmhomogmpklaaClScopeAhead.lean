/- Proved: for every input the law ScopeAhead returns true, and its arguments read as they did. No condition. -/
import Derived.Test.YtpjmhomogmpklaaMX9
import Derived.Test.YtpjmhomogmpklaaMX3
/- The laws on names: declared again; later. -/
namespace Go.Proofs.Ytpjmhomogmpklaa
open Go.HL
set_option maxRecDepth 10000
set_option linter.unusedSimpArgs false
set_option linter.unusedVariables false

theorem twM0 : psM 120 [118, 97, 114, 32, 120, 32, 111, 102, 32, 49, 59, 112, 114, 111, 99, 32, 113, 32, 123, 32, 118, 97, 114, 32, 121, 32, 111, 102, 32, 49, 59, 32, 125] = some (⟨0, 0⟩, ⟨0, 0⟩, true) := by decide +kernel
theorem tw00 : psM 120 [118, 97, 114, 32, 120, 32, 111, 102, 32, 49, 59, 118, 97, 114, 32, 120, 32, 111, 102, 32, 49, 59] = some (⟨0, 0⟩, ⟨20, 11⟩, true) := by decide +kernel
theorem tw01 : psM 120 [118, 97, 114, 32, 120, 32, 111, 102, 32, 49, 59, 99, 104, 97, 110, 32, 120, 91, 49, 93, 32, 111, 102, 32, 49, 59] = some (⟨0, 0⟩, ⟨20, 11⟩, true) := by decide +kernel
theorem tw02 : psM 120 [118, 97, 114, 32, 120, 32, 111, 102, 32, 49, 59, 112, 114, 111, 99, 32, 120, 32, 123, 32, 125] = some (⟨0, 0⟩, ⟨20, 11⟩, true) := by decide +kernel
theorem twM1 : psM 120 [99, 104, 97, 110, 32, 120, 91, 49, 93, 32, 111, 102, 32, 49, 59, 112, 114, 111, 99, 32, 113, 32, 123, 32, 118, 97, 114, 32, 121, 32, 111, 102, 32, 49, 59, 32, 125] = some (⟨0, 0⟩, ⟨0, 0⟩, true) := by decide +kernel
theorem tw10 : psM 120 [99, 104, 97, 110, 32, 120, 91, 49, 93, 32, 111, 102, 32, 49, 59, 118, 97, 114, 32, 120, 32, 111, 102, 32, 49, 59] = some (⟨0, 0⟩, ⟨20, 15⟩, true) := by decide +kernel
theorem tw11 : psM 120 [99, 104, 97, 110, 32, 120, 91, 49, 93, 32, 111, 102, 32, 49, 59, 99, 104, 97, 110, 32, 120, 91, 49, 93, 32, 111, 102, 32, 49, 59] = some (⟨0, 0⟩, ⟨20, 15⟩, true) := by decide +kernel
theorem tw12 : psM 120 [99, 104, 97, 110, 32, 120, 91, 49, 93, 32, 111, 102, 32, 49, 59, 112, 114, 111, 99, 32, 120, 32, 123, 32, 125] = some (⟨0, 0⟩, ⟨20, 15⟩, true) := by decide +kernel
theorem twM2 : psM 120 [112, 114, 111, 99, 32, 120, 32, 123, 32, 125, 112, 114, 111, 99, 32, 113, 32, 123, 32, 118, 97, 114, 32, 121, 32, 111, 102, 32, 49, 59, 32, 125] = some (⟨0, 0⟩, ⟨0, 0⟩, true) := by decide +kernel
theorem tw20 : psM 120 [112, 114, 111, 99, 32, 120, 32, 123, 32, 125, 118, 97, 114, 32, 120, 32, 111, 102, 32, 49, 59] = some (⟨0, 0⟩, ⟨20, 10⟩, true) := by decide +kernel
theorem tw21 : psM 120 [112, 114, 111, 99, 32, 120, 32, 123, 32, 125, 99, 104, 97, 110, 32, 120, 91, 49, 93, 32, 111, 102, 32, 49, 59] = some (⟨0, 0⟩, ⟨20, 10⟩, true) := by decide +kernel
theorem tw22 : psM 120 [112, 114, 111, 99, 32, 120, 32, 123, 32, 125, 112, 114, 111, 99, 32, 120, 32, 123, 32, 125] = some (⟨0, 0⟩, ⟨20, 10⟩, true) := by decide +kernel
theorem rem_cases (m : Int) (k : Int) (h : 0 < k) : 0 ≤ m % k ∧ m % k < k := ⟨Int.emod_nonneg m (by omega), Int.emod_lt_of_pos m h⟩
section
variable {H : Heap}
set_option maxHeartbeats 4000000 in
theorem scopeTwice_spec {m0 m1 : Int} (h0 : 0 ≤ m0 ∧ m0 ≤ 255) (h1 : 0 ≤ m1 ∧ m1 ≤ 255) : CallF Try.prog 5 [.int .u8 m0, .int .u8 m1] H (fun r H' => r = .bool true ∧ Fr [] H H') NoP := by
  have c0 := rem_cases m0 3 (by omega)
  have c1 := rem_cases m1 3 (by omega)
  have w0 : IntKind.i64.wrap m0 = m0 := IntWalk.i64_in _ (by omega)
  have w1 : IntKind.i64.wrap m1 = m1 := IntWalk.i64_in _ (by omega)
  refine callF_of Try.func5 rfl Try.ntmps5 Try.results5 (by decide) rfl ?_
  simp (disch := omega) only [go_sem, ↓cw_block, dsB_of]
  refine call_to w11awake_spec ?_
  intro r0 H0 hv
  refine Hush.out ?_
  obtain ⟨rfl, f0⟩ := hv
  obtain ⟨G, hG⟩ : ∃ G, G = H0.push (.cells #[sv [118, 97, 114, 32, 120, 32, 111, 102, 32, 49, 59], sv [99, 104, 97, 110, 32, 120, 91, 49, 93, 32, 111, 102, 32, 49, 59], sv [112, 114, 111, 99, 32, 120, 32, 123, 32, 125]] 9) := ⟨_, rfl⟩
  have g0 : Fr [] H0 G := by rw [hG]; exact Fr.push
  have hb : Blk G H0.size 9 [sv [118, 97, 114, 32, 120, 32, 111, 102, 32, 49, 59], sv [99, 104, 97, 110, 32, 120, 91, 49, 93, 32, 111, 102, 32, 49, 59], sv [112, 114, 111, 99, 32, 120, 32, 123, 32, 125]] := by rw [hG]; exact Blk.new rfl
  have q0 := hb.cell 0
  have q1 := hb.cell 1
  have q2 := hb.cell 2
  simp only [List.getElem?_cons_succ, List.getElem?_cons_zero] at q0 q1 q2
  have t0 : m0 % 3 = 0 ∨ m0 % 3 = 1 ∨ m0 % 3 = 2 := by omega
  have t1 : m1 % 3 = 0 ∨ m1 % 3 = 1 ∨ m1 % 3 = 2 := by omega
  rcases t0 with e0 | e0 | e0
  · rcases t1 with e1 | e1 | e1
    · obtain ⟨l1, p1, s1, z1⟩ := ps_open tw00
      obtain ⟨l2, p2, s2, z2⟩ := ps_open twM0
      have hln : ([118, 97, 114, 32, 120, 32, 111, 102, 32, 49, 59] : Str).length = 11 := rfl
      refine ⟨?_⟩
      simp (disch := omega) only [go_sem, ↓cw_block, dsB_of, w0, w1, e0, e1]
      rw [← hG]
      refine call_to (parse_spec p1) ?_
      intro r1 H1 hv
      refine Hush.out ?_
      obtain ⟨v1, rfl, f1, nl1⟩ := hv
      refine ⟨?_⟩
      simp (disch := omega) only [go_sem, ↓cw_block, dsB_of, fltV]
      refine call_to (parse_spec p2) ?_
      intro r2 H2 hv
      refine Hush.out ?_
      obtain ⟨v2, rfl, f2, nl2⟩ := hv
      have nl1' := nl1.grow ((Fr.push (F := [])).trans f2)
      obtain ⟨K, hK⟩ : ∃ K, K = H1.push (.cells #[iv 0, iv 0] 27) := ⟨_, rfl⟩
      have bK : Blk H2 H1.size 27 [iv 0, iv 0] := f2.blk (Blk.new rfl) (by simp)
      have kk := (Fr.push (F := []) (o := .cells #[iv 0, iv 0] 27)).cell' (bK.cell 0) (by simp)
      refine ⟨?_⟩
      simp (disch := omega) only [go_sem, ↓cw_block, dsB_of, fltV, kk]
      refine call_to (scCheck_spec (nl1'.grow Fr.push) z1) ?_
      intro r3 H3 hv
      refine Hush.out ?_
      obtain ⟨f3, rfl⟩ := hv
      rw [s1]
      refine ⟨?_⟩
      simp (disch := omega) only [go_sem, ↓cw_block, dsB_of, fltV, hln]
      refine call_to (scCheck_spec (nl2.grow ((Fr.push (F := [])).trans f3)) z2) ?_
      intro r4 H4 hv
      refine Hush.out ?_
      obtain ⟨f4, rfl⟩ := hv
      rw [s2]
      refine ⟨?_⟩
      simp (disch := omega) only [go_sem, ↓cw_block, dsB_of, fltV]
      exact fin ⟨rfl, ((((((f0.trans g0).trans f1).trans Fr.push).trans f2).trans Fr.push).trans f3).trans f4⟩
    · obtain ⟨l1, p1, s1, z1⟩ := ps_open tw01
      obtain ⟨l2, p2, s2, z2⟩ := ps_open twM0
      have hln : ([118, 97, 114, 32, 120, 32, 111, 102, 32, 49, 59] : Str).length = 11 := rfl
      refine ⟨?_⟩
      simp (disch := omega) only [go_sem, ↓cw_block, dsB_of, w0, w1, e0, e1]
      rw [← hG]
      refine call_to (parse_spec p1) ?_
      intro r1 H1 hv
      refine Hush.out ?_
      obtain ⟨v1, rfl, f1, nl1⟩ := hv
      refine ⟨?_⟩
      simp (disch := omega) only [go_sem, ↓cw_block, dsB_of, fltV]
      refine call_to (parse_spec p2) ?_
      intro r2 H2 hv
      refine Hush.out ?_
      obtain ⟨v2, rfl, f2, nl2⟩ := hv
      have nl1' := nl1.grow ((Fr.push (F := [])).trans f2)
      obtain ⟨K, hK⟩ : ∃ K, K = H1.push (.cells #[iv 0, iv 0] 27) := ⟨_, rfl⟩
      have bK : Blk H2 H1.size 27 [iv 0, iv 0] := f2.blk (Blk.new rfl) (by simp)
      have kk := (Fr.push (F := []) (o := .cells #[iv 0, iv 0] 27)).cell' (bK.cell 0) (by simp)
      refine ⟨?_⟩
      simp (disch := omega) only [go_sem, ↓cw_block, dsB_of, fltV, kk]
      refine call_to (scCheck_spec (nl1'.grow Fr.push) z1) ?_
      intro r3 H3 hv
      refine Hush.out ?_
      obtain ⟨f3, rfl⟩ := hv
      rw [s1]
      refine ⟨?_⟩
      simp (disch := omega) only [go_sem, ↓cw_block, dsB_of, fltV, hln]
      refine call_to (scCheck_spec (nl2.grow ((Fr.push (F := [])).trans f3)) z2) ?_
      intro r4 H4 hv
      refine Hush.out ?_
      obtain ⟨f4, rfl⟩ := hv
      rw [s2]
      refine ⟨?_⟩
      simp (disch := omega) only [go_sem, ↓cw_block, dsB_of, fltV]
      exact fin ⟨rfl, ((((((f0.trans g0).trans f1).trans Fr.push).trans f2).trans Fr.push).trans f3).trans f4⟩
    · obtain ⟨l1, p1, s1, z1⟩ := ps_open tw02
      obtain ⟨l2, p2, s2, z2⟩ := ps_open twM0
      have hln : ([118, 97, 114, 32, 120, 32, 111, 102, 32, 49, 59] : Str).length = 11 := rfl
      refine ⟨?_⟩
      simp (disch := omega) only [go_sem, ↓cw_block, dsB_of, w0, w1, e0, e1]
      rw [← hG]
      refine call_to (parse_spec p1) ?_
      intro r1 H1 hv
      refine Hush.out ?_
      obtain ⟨v1, rfl, f1, nl1⟩ := hv
      refine ⟨?_⟩
      simp (disch := omega) only [go_sem, ↓cw_block, dsB_of, fltV]
      refine call_to (parse_spec p2) ?_
      intro r2 H2 hv
      refine Hush.out ?_
      obtain ⟨v2, rfl, f2, nl2⟩ := hv
      have nl1' := nl1.grow ((Fr.push (F := [])).trans f2)
      obtain ⟨K, hK⟩ : ∃ K, K = H1.push (.cells #[iv 0, iv 0] 27) := ⟨_, rfl⟩
      have bK : Blk H2 H1.size 27 [iv 0, iv 0] := f2.blk (Blk.new rfl) (by simp)
      have kk := (Fr.push (F := []) (o := .cells #[iv 0, iv 0] 27)).cell' (bK.cell 0) (by simp)
      refine ⟨?_⟩
      simp (disch := omega) only [go_sem, ↓cw_block, dsB_of, fltV, kk]
      refine call_to (scCheck_spec (nl1'.grow Fr.push) z1) ?_
      intro r3 H3 hv
      refine Hush.out ?_
      obtain ⟨f3, rfl⟩ := hv
      rw [s1]
      refine ⟨?_⟩
      simp (disch := omega) only [go_sem, ↓cw_block, dsB_of, fltV, hln]
      refine call_to (scCheck_spec (nl2.grow ((Fr.push (F := [])).trans f3)) z2) ?_
      intro r4 H4 hv
      refine Hush.out ?_
      obtain ⟨f4, rfl⟩ := hv
      rw [s2]
      refine ⟨?_⟩
      simp (disch := omega) only [go_sem, ↓cw_block, dsB_of, fltV]
      exact fin ⟨rfl, ((((((f0.trans g0).trans f1).trans Fr.push).trans f2).trans Fr.push).trans f3).trans f4⟩
  · rcases t1 with e1 | e1 | e1
    · obtain ⟨l1, p1, s1, z1⟩ := ps_open tw10
      obtain ⟨l2, p2, s2, z2⟩ := ps_open twM1
      have hln : ([99, 104, 97, 110, 32, 120, 91, 49, 93, 32, 111, 102, 32, 49, 59] : Str).length = 15 := rfl
      refine ⟨?_⟩
      simp (disch := omega) only [go_sem, ↓cw_block, dsB_of, w0, w1, e0, e1]
      rw [← hG]
      refine call_to (parse_spec p1) ?_
      intro r1 H1 hv
      refine Hush.out ?_
      obtain ⟨v1, rfl, f1, nl1⟩ := hv
      refine ⟨?_⟩
      simp (disch := omega) only [go_sem, ↓cw_block, dsB_of, fltV]
      refine call_to (parse_spec p2) ?_
      intro r2 H2 hv
      refine Hush.out ?_
      obtain ⟨v2, rfl, f2, nl2⟩ := hv
      have nl1' := nl1.grow ((Fr.push (F := [])).trans f2)
      obtain ⟨K, hK⟩ : ∃ K, K = H1.push (.cells #[iv 0, iv 0] 27) := ⟨_, rfl⟩
      have bK : Blk H2 H1.size 27 [iv 0, iv 0] := f2.blk (Blk.new rfl) (by simp)
      have kk := (Fr.push (F := []) (o := .cells #[iv 0, iv 0] 27)).cell' (bK.cell 0) (by simp)
      refine ⟨?_⟩
      simp (disch := omega) only [go_sem, ↓cw_block, dsB_of, fltV, kk]
      refine call_to (scCheck_spec (nl1'.grow Fr.push) z1) ?_
      intro r3 H3 hv
      refine Hush.out ?_
      obtain ⟨f3, rfl⟩ := hv
      rw [s1]
      refine ⟨?_⟩
      simp (disch := omega) only [go_sem, ↓cw_block, dsB_of, fltV, hln]
      refine call_to (scCheck_spec (nl2.grow ((Fr.push (F := [])).trans f3)) z2) ?_
      intro r4 H4 hv
      refine Hush.out ?_
      obtain ⟨f4, rfl⟩ := hv
      rw [s2]
      refine ⟨?_⟩
      simp (disch := omega) only [go_sem, ↓cw_block, dsB_of, fltV]
      exact fin ⟨rfl, ((((((f0.trans g0).trans f1).trans Fr.push).trans f2).trans Fr.push).trans f3).trans f4⟩
    · obtain ⟨l1, p1, s1, z1⟩ := ps_open tw11
      obtain ⟨l2, p2, s2, z2⟩ := ps_open twM1
      have hln : ([99, 104, 97, 110, 32, 120, 91, 49, 93, 32, 111, 102, 32, 49, 59] : Str).length = 15 := rfl
      refine ⟨?_⟩
      simp (disch := omega) only [go_sem, ↓cw_block, dsB_of, w0, w1, e0, e1]
      rw [← hG]
      refine call_to (parse_spec p1) ?_
      intro r1 H1 hv
      refine Hush.out ?_
      obtain ⟨v1, rfl, f1, nl1⟩ := hv
      refine ⟨?_⟩
      simp (disch := omega) only [go_sem, ↓cw_block, dsB_of, fltV]
      refine call_to (parse_spec p2) ?_
      intro r2 H2 hv
      refine Hush.out ?_
      obtain ⟨v2, rfl, f2, nl2⟩ := hv
      have nl1' := nl1.grow ((Fr.push (F := [])).trans f2)
      obtain ⟨K, hK⟩ : ∃ K, K = H1.push (.cells #[iv 0, iv 0] 27) := ⟨_, rfl⟩
      have bK : Blk H2 H1.size 27 [iv 0, iv 0] := f2.blk (Blk.new rfl) (by simp)
      have kk := (Fr.push (F := []) (o := .cells #[iv 0, iv 0] 27)).cell' (bK.cell 0) (by simp)
      refine ⟨?_⟩
      simp (disch := omega) only [go_sem, ↓cw_block, dsB_of, fltV, kk]
      refine call_to (scCheck_spec (nl1'.grow Fr.push) z1) ?_
      intro r3 H3 hv
      refine Hush.out ?_
      obtain ⟨f3, rfl⟩ := hv
      rw [s1]
      refine ⟨?_⟩
      simp (disch := omega) only [go_sem, ↓cw_block, dsB_of, fltV, hln]
      refine call_to (scCheck_spec (nl2.grow ((Fr.push (F := [])).trans f3)) z2) ?_
      intro r4 H4 hv
      refine Hush.out ?_
      obtain ⟨f4, rfl⟩ := hv
      rw [s2]
      refine ⟨?_⟩
      simp (disch := omega) only [go_sem, ↓cw_block, dsB_of, fltV]
      exact fin ⟨rfl, ((((((f0.trans g0).trans f1).trans Fr.push).trans f2).trans Fr.push).trans f3).trans f4⟩
    · obtain ⟨l1, p1, s1, z1⟩ := ps_open tw12
      obtain ⟨l2, p2, s2, z2⟩ := ps_open twM1
      have hln : ([99, 104, 97, 110, 32, 120, 91, 49, 93, 32, 111, 102, 32, 49, 59] : Str).length = 15 := rfl
      refine ⟨?_⟩
      simp (disch := omega) only [go_sem, ↓cw_block, dsB_of, w0, w1, e0, e1]
      rw [← hG]
      refine call_to (parse_spec p1) ?_
      intro r1 H1 hv
      refine Hush.out ?_
      obtain ⟨v1, rfl, f1, nl1⟩ := hv
      refine ⟨?_⟩
      simp (disch := omega) only [go_sem, ↓cw_block, dsB_of, fltV]
      refine call_to (parse_spec p2) ?_
      intro r2 H2 hv
      refine Hush.out ?_
      obtain ⟨v2, rfl, f2, nl2⟩ := hv
      have nl1' := nl1.grow ((Fr.push (F := [])).trans f2)
      obtain ⟨K, hK⟩ : ∃ K, K = H1.push (.cells #[iv 0, iv 0] 27) := ⟨_, rfl⟩
      have bK : Blk H2 H1.size 27 [iv 0, iv 0] := f2.blk (Blk.new rfl) (by simp)
      have kk := (Fr.push (F := []) (o := .cells #[iv 0, iv 0] 27)).cell' (bK.cell 0) (by simp)
      refine ⟨?_⟩
      simp (disch := omega) only [go_sem, ↓cw_block, dsB_of, fltV, kk]
      refine call_to (scCheck_spec (nl1'.grow Fr.push) z1) ?_
      intro r3 H3 hv
      refine Hush.out ?_
      obtain ⟨f3, rfl⟩ := hv
      rw [s1]
      refine ⟨?_⟩
      simp (disch := omega) only [go_sem, ↓cw_block, dsB_of, fltV, hln]
      refine call_to (scCheck_spec (nl2.grow ((Fr.push (F := [])).trans f3)) z2) ?_
      intro r4 H4 hv
      refine Hush.out ?_
      obtain ⟨f4, rfl⟩ := hv
      rw [s2]
      refine ⟨?_⟩
      simp (disch := omega) only [go_sem, ↓cw_block, dsB_of, fltV]
      exact fin ⟨rfl, ((((((f0.trans g0).trans f1).trans Fr.push).trans f2).trans Fr.push).trans f3).trans f4⟩
  · rcases t1 with e1 | e1 | e1
    · obtain ⟨l1, p1, s1, z1⟩ := ps_open tw20
      obtain ⟨l2, p2, s2, z2⟩ := ps_open twM2
      have hln : ([112, 114, 111, 99, 32, 120, 32, 123, 32, 125] : Str).length = 10 := rfl
      refine ⟨?_⟩
      simp (disch := omega) only [go_sem, ↓cw_block, dsB_of, w0, w1, e0, e1]
      rw [← hG]
      refine call_to (parse_spec p1) ?_
      intro r1 H1 hv
      refine Hush.out ?_
      obtain ⟨v1, rfl, f1, nl1⟩ := hv
      refine ⟨?_⟩
      simp (disch := omega) only [go_sem, ↓cw_block, dsB_of, fltV]
      refine call_to (parse_spec p2) ?_
      intro r2 H2 hv
      refine Hush.out ?_
      obtain ⟨v2, rfl, f2, nl2⟩ := hv
      have nl1' := nl1.grow ((Fr.push (F := [])).trans f2)
      obtain ⟨K, hK⟩ : ∃ K, K = H1.push (.cells #[iv 0, iv 0] 27) := ⟨_, rfl⟩
      have bK : Blk H2 H1.size 27 [iv 0, iv 0] := f2.blk (Blk.new rfl) (by simp)
      have kk := (Fr.push (F := []) (o := .cells #[iv 0, iv 0] 27)).cell' (bK.cell 0) (by simp)
      refine ⟨?_⟩
      simp (disch := omega) only [go_sem, ↓cw_block, dsB_of, fltV, kk]
      refine call_to (scCheck_spec (nl1'.grow Fr.push) z1) ?_
      intro r3 H3 hv
      refine Hush.out ?_
      obtain ⟨f3, rfl⟩ := hv
      rw [s1]
      refine ⟨?_⟩
      simp (disch := omega) only [go_sem, ↓cw_block, dsB_of, fltV, hln]
      refine call_to (scCheck_spec (nl2.grow ((Fr.push (F := [])).trans f3)) z2) ?_
      intro r4 H4 hv
      refine Hush.out ?_
      obtain ⟨f4, rfl⟩ := hv
      rw [s2]
      refine ⟨?_⟩
      simp (disch := omega) only [go_sem, ↓cw_block, dsB_of, fltV]
      exact fin ⟨rfl, ((((((f0.trans g0).trans f1).trans Fr.push).trans f2).trans Fr.push).trans f3).trans f4⟩
    · obtain ⟨l1, p1, s1, z1⟩ := ps_open tw21
      obtain ⟨l2, p2, s2, z2⟩ := ps_open twM2
      have hln : ([112, 114, 111, 99, 32, 120, 32, 123, 32, 125] : Str).length = 10 := rfl
      refine ⟨?_⟩
      simp (disch := omega) only [go_sem, ↓cw_block, dsB_of, w0, w1, e0, e1]
      rw [← hG]
      refine call_to (parse_spec p1) ?_
      intro r1 H1 hv
      refine Hush.out ?_
      obtain ⟨v1, rfl, f1, nl1⟩ := hv
      refine ⟨?_⟩
      simp (disch := omega) only [go_sem, ↓cw_block, dsB_of, fltV]
      refine call_to (parse_spec p2) ?_
      intro r2 H2 hv
      refine Hush.out ?_
      obtain ⟨v2, rfl, f2, nl2⟩ := hv
      have nl1' := nl1.grow ((Fr.push (F := [])).trans f2)
      obtain ⟨K, hK⟩ : ∃ K, K = H1.push (.cells #[iv 0, iv 0] 27) := ⟨_, rfl⟩
      have bK : Blk H2 H1.size 27 [iv 0, iv 0] := f2.blk (Blk.new rfl) (by simp)
      have kk := (Fr.push (F := []) (o := .cells #[iv 0, iv 0] 27)).cell' (bK.cell 0) (by simp)
      refine ⟨?_⟩
      simp (disch := omega) only [go_sem, ↓cw_block, dsB_of, fltV, kk]
      refine call_to (scCheck_spec (nl1'.grow Fr.push) z1) ?_
      intro r3 H3 hv
      refine Hush.out ?_
      obtain ⟨f3, rfl⟩ := hv
      rw [s1]
      refine ⟨?_⟩
      simp (disch := omega) only [go_sem, ↓cw_block, dsB_of, fltV, hln]
      refine call_to (scCheck_spec (nl2.grow ((Fr.push (F := [])).trans f3)) z2) ?_
      intro r4 H4 hv
      refine Hush.out ?_
      obtain ⟨f4, rfl⟩ := hv
      rw [s2]
      refine ⟨?_⟩
      simp (disch := omega) only [go_sem, ↓cw_block, dsB_of, fltV]
      exact fin ⟨rfl, ((((((f0.trans g0).trans f1).trans Fr.push).trans f2).trans Fr.push).trans f3).trans f4⟩
    · obtain ⟨l1, p1, s1, z1⟩ := ps_open tw22
      obtain ⟨l2, p2, s2, z2⟩ := ps_open twM2
      have hln : ([112, 114, 111, 99, 32, 120, 32, 123, 32, 125] : Str).length = 10 := rfl
      refine ⟨?_⟩
      simp (disch := omega) only [go_sem, ↓cw_block, dsB_of, w0, w1, e0, e1]
      rw [← hG]
      refine call_to (parse_spec p1) ?_
      intro r1 H1 hv
      refine Hush.out ?_
      obtain ⟨v1, rfl, f1, nl1⟩ := hv
      refine ⟨?_⟩
      simp (disch := omega) only [go_sem, ↓cw_block, dsB_of, fltV]
      refine call_to (parse_spec p2) ?_
      intro r2 H2 hv
      refine Hush.out ?_
      obtain ⟨v2, rfl, f2, nl2⟩ := hv
      have nl1' := nl1.grow ((Fr.push (F := [])).trans f2)
      obtain ⟨K, hK⟩ : ∃ K, K = H1.push (.cells #[iv 0, iv 0] 27) := ⟨_, rfl⟩
      have bK : Blk H2 H1.size 27 [iv 0, iv 0] := f2.blk (Blk.new rfl) (by simp)
      have kk := (Fr.push (F := []) (o := .cells #[iv 0, iv 0] 27)).cell' (bK.cell 0) (by simp)
      refine ⟨?_⟩
      simp (disch := omega) only [go_sem, ↓cw_block, dsB_of, fltV, kk]
      refine call_to (scCheck_spec (nl1'.grow Fr.push) z1) ?_
      intro r3 H3 hv
      refine Hush.out ?_
      obtain ⟨f3, rfl⟩ := hv
      rw [s1]
      refine ⟨?_⟩
      simp (disch := omega) only [go_sem, ↓cw_block, dsB_of, fltV, hln]
      refine call_to (scCheck_spec (nl2.grow ((Fr.push (F := [])).trans f3)) z2) ?_
      intro r4 H4 hv
      refine Hush.out ?_
      obtain ⟨f4, rfl⟩ := hv
      rw [s2]
      refine ⟨?_⟩
      simp (disch := omega) only [go_sem, ↓cw_block, dsB_of, fltV]
      exact fin ⟨rfl, ((((((f0.trans g0).trans f1).trans Fr.push).trans f2).trans Fr.push).trans f3).trans f4⟩
end
end Go.Proofs.Ytpjmhomogmpklaa

/- The laws on names: later. -/
namespace Go.Proofs.Ytpjmhomogmpklaa
open Go.HL
set_option maxRecDepth 10000
set_option linter.unusedSimpArgs false
set_option linter.unusedVariables false

/-- A text is read, and the kind of what is wrong with its names. -/
def psE (n : Nat) (s : Str) : Option (Flt × Int × Bool) := (parseM n s).map fun r => (r.2, (scopeM r.1).err, szB r.1)
theorem pe_open {n : Nat} {s : Str} {f : Flt} {g : Int} (h : psE n s = some (f, g, true)) : ∃ l, parseM n s = some (l, f) ∧ (scopeM l).err = g ∧ Sz l := by
  unfold psE at h
  rw [Option.map_eq_some_iff] at h
  obtain ⟨⟨l, f'⟩, h1, h2⟩ := h
  simp only [Prod.mk.injEq] at h2
  obtain ⟨rfl, h3, h4⟩ := h2
  exact ⟨l, h1, h3, sz_of h4⟩
theorem ahT0 : psE 160 [115, 97, 102, 101, 32, 120, 59, 32, 118, 97, 114, 32, 120, 32, 111, 102, 32, 49, 59] = some (⟨0, 0⟩, 20, true) := by decide +kernel
theorem ahF0 : psE 160 [118, 97, 114, 32, 120, 32, 111, 102, 32, 49, 59, 32, 115, 97, 102, 101, 32, 120, 59] = some (⟨0, 0⟩, 0, true) := by decide +kernel
theorem ahT1 : psE 160 [112, 114, 111, 99, 32, 112, 32, 123, 32, 120, 32, 61, 32, 49, 59, 32, 125, 32, 118, 97, 114, 32, 120, 32, 111, 102, 32, 49, 59] = some (⟨0, 0⟩, 20, true) := by decide +kernel
theorem ahF1 : psE 160 [118, 97, 114, 32, 120, 32, 111, 102, 32, 49, 59, 32, 112, 114, 111, 99, 32, 112, 32, 123, 32, 120, 32, 61, 32, 49, 59, 32, 125] = some (⟨0, 0⟩, 0, true) := by decide +kernel
theorem ahT2 : psE 160 [112, 114, 111, 99, 32, 112, 32, 123, 32, 115, 107, 105, 112, 59, 32, 119, 104, 101, 110, 32, 120, 59, 32, 125, 32, 118, 97, 114, 32, 120, 32, 111, 102, 32, 49, 59] = some (⟨0, 0⟩, 20, true) := by decide +kernel
theorem ahF2 : psE 160 [118, 97, 114, 32, 120, 32, 111, 102, 32, 49, 59, 32, 112, 114, 111, 99, 32, 112, 32, 123, 32, 115, 107, 105, 112, 59, 32, 119, 104, 101, 110, 32, 120, 59, 32, 125] = some (⟨0, 0⟩, 0, true) := by decide +kernel
theorem ahT3 : psE 160 [112, 114, 111, 99, 32, 112, 32, 123, 32, 118, 97, 114, 32, 121, 32, 111, 102, 32, 49, 59, 32, 121, 32, 61, 32, 120, 59, 32, 125, 32, 118, 97, 114, 32, 120, 32, 111, 102, 32, 49, 59] = some (⟨0, 0⟩, 20, true) := by decide +kernel
theorem ahF3 : psE 160 [118, 97, 114, 32, 120, 32, 111, 102, 32, 49, 59, 32, 112, 114, 111, 99, 32, 112, 32, 123, 32, 118, 97, 114, 32, 121, 32, 111, 102, 32, 49, 59, 32, 121, 32, 61, 32, 120, 59, 32, 125] = some (⟨0, 0⟩, 0, true) := by decide +kernel
section
variable {H : Heap}
set_option maxHeartbeats 4000000 in
theorem scopeAhead_spec {m0 : Int} {later : Bool} (h0 : 0 ≤ m0 ∧ m0 ≤ 255) : CallF Try.prog 6 [.int .u8 m0, .bool later] H (fun r H' => r = .bool true ∧ Fr [] H H') NoP := by
  have c0 := rem_cases m0 4 (by omega)
  have w0 : IntKind.i64.wrap m0 = m0 := IntWalk.i64_in _ (by omega)
  refine callF_of Try.func6 rfl Try.ntmps6 Try.results6 (by decide) rfl ?_
  simp (disch := omega) only [go_sem, ↓cw_block, dsB_of]
  refine call_to w11awake_spec ?_
  intro r0 H0 hv
  refine Hush.out ?_
  obtain ⟨rfl, f0⟩ := hv
  obtain ⟨G, hG⟩ : ∃ G, G = H0.push (.cells #[sv [115, 97, 102, 101, 32, 120, 59], sv [112, 114, 111, 99, 32, 112, 32, 123, 32, 120, 32, 61, 32, 49, 59, 32, 125], sv [112, 114, 111, 99, 32, 112, 32, 123, 32, 115, 107, 105, 112, 59, 32, 119, 104, 101, 110, 32, 120, 59, 32, 125], sv [112, 114, 111, 99, 32, 112, 32, 123, 32, 118, 97, 114, 32, 121, 32, 111, 102, 32, 49, 59, 32, 121, 32, 61, 32, 120, 59, 32, 125]] 9) := ⟨_, rfl⟩
  have g0 : Fr [] H0 G := by rw [hG]; exact Fr.push
  have t0 : m0 % 4 = 0 ∨ m0 % 4 = 1 ∨ m0 % 4 = 2 ∨ m0 % 4 = 3 := by omega
  rcases t0 with e0 | e0 | e0 | e0
  · cases later
    · obtain ⟨l1, p1, s1, z1⟩ := pe_open ahF0
      have hl1 : ([115, 97, 102, 101, 32, 120, 59] : Str).length = 7 := rfl
      have hl2 : ([118, 97, 114, 32, 120, 32, 111, 102, 32, 49, 59, 32] : Str).length = 12 := rfl
      have hl3 : ([32, 118, 97, 114, 32, 120, 32, 111, 102, 32, 49, 59] : Str).length = 12 := rfl
      refine ⟨?_⟩
      simp (disch := omega) only [go_sem, ↓cw_block, dsB_of, w0, e0, hl1, hl2, hl3]
      rw [← hG]
      refine call_to (parse_spec p1) ?_
      intro r1 H1 hv
      refine Hush.out ?_
      obtain ⟨v1, rfl, f1, nl1⟩ := hv
      have nl1' := nl1.grow (Fr.push (F := []) (o := .cells #[iv 0, iv 0] 27))
      have bK : Blk (H1.push (.cells #[iv 0, iv 0] 27)) H1.size 27 [iv 0, iv 0] := Blk.new rfl
      refine ⟨?_⟩
      simp (disch := omega) only [go_sem, ↓cw_block, dsB_of, fltV]
      refine call_to (scCheck_spec nl1' z1) ?_
      intro r3 H3 hv
      refine Hush.out ?_
      obtain ⟨f3, rfl⟩ := hv
      obtain ⟨fl, hfl⟩ : ∃ fl, fl = scopeM l1 := ⟨_, rfl⟩
      rw [← hfl] at s1 ⊢
      have kk := (Fr.push (F := []) (o := .cells #[iv fl.err, iv fl.pos] 27)).cell' ((f3.blk bK (by simp)).cell 0) (by simp)
      rw [s1] at kk
      refine ⟨?_⟩
      simp (disch := omega) only [go_sem, ↓cw_block, dsB_of, fltV, kk, s1]
      exact fin ⟨rfl, ((((f0.trans g0).trans f1).trans Fr.push).trans f3).trans Fr.push⟩
    · obtain ⟨l1, p1, s1, z1⟩ := pe_open ahT0
      have hl1 : ([115, 97, 102, 101, 32, 120, 59] : Str).length = 7 := rfl
      have hl2 : ([118, 97, 114, 32, 120, 32, 111, 102, 32, 49, 59, 32] : Str).length = 12 := rfl
      have hl3 : ([32, 118, 97, 114, 32, 120, 32, 111, 102, 32, 49, 59] : Str).length = 12 := rfl
      refine ⟨?_⟩
      simp (disch := omega) only [go_sem, ↓cw_block, dsB_of, w0, e0, hl1, hl2, hl3]
      rw [← hG]
      refine call_to (parse_spec p1) ?_
      intro r1 H1 hv
      refine Hush.out ?_
      obtain ⟨v1, rfl, f1, nl1⟩ := hv
      have nl1' := nl1.grow (Fr.push (F := []) (o := .cells #[iv 0, iv 0] 27))
      have bK : Blk (H1.push (.cells #[iv 0, iv 0] 27)) H1.size 27 [iv 0, iv 0] := Blk.new rfl
      refine ⟨?_⟩
      simp (disch := omega) only [go_sem, ↓cw_block, dsB_of, fltV]
      refine call_to (scCheck_spec nl1' z1) ?_
      intro r3 H3 hv
      refine Hush.out ?_
      obtain ⟨f3, rfl⟩ := hv
      obtain ⟨fl, hfl⟩ : ∃ fl, fl = scopeM l1 := ⟨_, rfl⟩
      rw [← hfl] at s1 ⊢
      have kk := (Fr.push (F := []) (o := .cells #[iv fl.err, iv fl.pos] 27)).cell' ((f3.blk bK (by simp)).cell 0) (by simp)
      rw [s1] at kk
      refine ⟨?_⟩
      simp (disch := omega) only [go_sem, ↓cw_block, dsB_of, fltV, kk, s1]
      exact fin ⟨rfl, ((((f0.trans g0).trans f1).trans Fr.push).trans f3).trans Fr.push⟩
  · cases later
    · obtain ⟨l1, p1, s1, z1⟩ := pe_open ahF1
      have hl1 : ([112, 114, 111, 99, 32, 112, 32, 123, 32, 120, 32, 61, 32, 49, 59, 32, 125] : Str).length = 17 := rfl
      have hl2 : ([118, 97, 114, 32, 120, 32, 111, 102, 32, 49, 59, 32] : Str).length = 12 := rfl
      have hl3 : ([32, 118, 97, 114, 32, 120, 32, 111, 102, 32, 49, 59] : Str).length = 12 := rfl
      refine ⟨?_⟩
      simp (disch := omega) only [go_sem, ↓cw_block, dsB_of, w0, e0, hl1, hl2, hl3]
      rw [← hG]
      refine call_to (parse_spec p1) ?_
      intro r1 H1 hv
      refine Hush.out ?_
      obtain ⟨v1, rfl, f1, nl1⟩ := hv
      have nl1' := nl1.grow (Fr.push (F := []) (o := .cells #[iv 0, iv 0] 27))
      have bK : Blk (H1.push (.cells #[iv 0, iv 0] 27)) H1.size 27 [iv 0, iv 0] := Blk.new rfl
      refine ⟨?_⟩
      simp (disch := omega) only [go_sem, ↓cw_block, dsB_of, fltV]
      refine call_to (scCheck_spec nl1' z1) ?_
      intro r3 H3 hv
      refine Hush.out ?_
      obtain ⟨f3, rfl⟩ := hv
      obtain ⟨fl, hfl⟩ : ∃ fl, fl = scopeM l1 := ⟨_, rfl⟩
      rw [← hfl] at s1 ⊢
      have kk := (Fr.push (F := []) (o := .cells #[iv fl.err, iv fl.pos] 27)).cell' ((f3.blk bK (by simp)).cell 0) (by simp)
      rw [s1] at kk
      refine ⟨?_⟩
      simp (disch := omega) only [go_sem, ↓cw_block, dsB_of, fltV, kk, s1]
      exact fin ⟨rfl, ((((f0.trans g0).trans f1).trans Fr.push).trans f3).trans Fr.push⟩
    · obtain ⟨l1, p1, s1, z1⟩ := pe_open ahT1
      have hl1 : ([112, 114, 111, 99, 32, 112, 32, 123, 32, 120, 32, 61, 32, 49, 59, 32, 125] : Str).length = 17 := rfl
      have hl2 : ([118, 97, 114, 32, 120, 32, 111, 102, 32, 49, 59, 32] : Str).length = 12 := rfl
      have hl3 : ([32, 118, 97, 114, 32, 120, 32, 111, 102, 32, 49, 59] : Str).length = 12 := rfl
      refine ⟨?_⟩
      simp (disch := omega) only [go_sem, ↓cw_block, dsB_of, w0, e0, hl1, hl2, hl3]
      rw [← hG]
      refine call_to (parse_spec p1) ?_
      intro r1 H1 hv
      refine Hush.out ?_
      obtain ⟨v1, rfl, f1, nl1⟩ := hv
      have nl1' := nl1.grow (Fr.push (F := []) (o := .cells #[iv 0, iv 0] 27))
      have bK : Blk (H1.push (.cells #[iv 0, iv 0] 27)) H1.size 27 [iv 0, iv 0] := Blk.new rfl
      refine ⟨?_⟩
      simp (disch := omega) only [go_sem, ↓cw_block, dsB_of, fltV]
      refine call_to (scCheck_spec nl1' z1) ?_
      intro r3 H3 hv
      refine Hush.out ?_
      obtain ⟨f3, rfl⟩ := hv
      obtain ⟨fl, hfl⟩ : ∃ fl, fl = scopeM l1 := ⟨_, rfl⟩
      rw [← hfl] at s1 ⊢
      have kk := (Fr.push (F := []) (o := .cells #[iv fl.err, iv fl.pos] 27)).cell' ((f3.blk bK (by simp)).cell 0) (by simp)
      rw [s1] at kk
      refine ⟨?_⟩
      simp (disch := omega) only [go_sem, ↓cw_block, dsB_of, fltV, kk, s1]
      exact fin ⟨rfl, ((((f0.trans g0).trans f1).trans Fr.push).trans f3).trans Fr.push⟩
  · cases later
    · obtain ⟨l1, p1, s1, z1⟩ := pe_open ahF2
      have hl1 : ([112, 114, 111, 99, 32, 112, 32, 123, 32, 115, 107, 105, 112, 59, 32, 119, 104, 101, 110, 32, 120, 59, 32, 125] : Str).length = 24 := rfl
      have hl2 : ([118, 97, 114, 32, 120, 32, 111, 102, 32, 49, 59, 32] : Str).length = 12 := rfl
      have hl3 : ([32, 118, 97, 114, 32, 120, 32, 111, 102, 32, 49, 59] : Str).length = 12 := rfl
      refine ⟨?_⟩
      simp (disch := omega) only [go_sem, ↓cw_block, dsB_of, w0, e0, hl1, hl2, hl3]
      rw [← hG]
      refine call_to (parse_spec p1) ?_
      intro r1 H1 hv
      refine Hush.out ?_
      obtain ⟨v1, rfl, f1, nl1⟩ := hv
      have nl1' := nl1.grow (Fr.push (F := []) (o := .cells #[iv 0, iv 0] 27))
      have bK : Blk (H1.push (.cells #[iv 0, iv 0] 27)) H1.size 27 [iv 0, iv 0] := Blk.new rfl
      refine ⟨?_⟩
      simp (disch := omega) only [go_sem, ↓cw_block, dsB_of, fltV]
      refine call_to (scCheck_spec nl1' z1) ?_
      intro r3 H3 hv
      refine Hush.out ?_
      obtain ⟨f3, rfl⟩ := hv
      obtain ⟨fl, hfl⟩ : ∃ fl, fl = scopeM l1 := ⟨_, rfl⟩
      rw [← hfl] at s1 ⊢
      have kk := (Fr.push (F := []) (o := .cells #[iv fl.err, iv fl.pos] 27)).cell' ((f3.blk bK (by simp)).cell 0) (by simp)
      rw [s1] at kk
      refine ⟨?_⟩
      simp (disch := omega) only [go_sem, ↓cw_block, dsB_of, fltV, kk, s1]
      exact fin ⟨rfl, ((((f0.trans g0).trans f1).trans Fr.push).trans f3).trans Fr.push⟩
    · obtain ⟨l1, p1, s1, z1⟩ := pe_open ahT2
      have hl1 : ([112, 114, 111, 99, 32, 112, 32, 123, 32, 115, 107, 105, 112, 59, 32, 119, 104, 101, 110, 32, 120, 59, 32, 125] : Str).length = 24 := rfl
      have hl2 : ([118, 97, 114, 32, 120, 32, 111, 102, 32, 49, 59, 32] : Str).length = 12 := rfl
      have hl3 : ([32, 118, 97, 114, 32, 120, 32, 111, 102, 32, 49, 59] : Str).length = 12 := rfl
      refine ⟨?_⟩
      simp (disch := omega) only [go_sem, ↓cw_block, dsB_of, w0, e0, hl1, hl2, hl3]
      rw [← hG]
      refine call_to (parse_spec p1) ?_
      intro r1 H1 hv
      refine Hush.out ?_
      obtain ⟨v1, rfl, f1, nl1⟩ := hv
      have nl1' := nl1.grow (Fr.push (F := []) (o := .cells #[iv 0, iv 0] 27))
      have bK : Blk (H1.push (.cells #[iv 0, iv 0] 27)) H1.size 27 [iv 0, iv 0] := Blk.new rfl
      refine ⟨?_⟩
      simp (disch := omega) only [go_sem, ↓cw_block, dsB_of, fltV]
      refine call_to (scCheck_spec nl1' z1) ?_
      intro r3 H3 hv
      refine Hush.out ?_
      obtain ⟨f3, rfl⟩ := hv
      obtain ⟨fl, hfl⟩ : ∃ fl, fl = scopeM l1 := ⟨_, rfl⟩
      rw [← hfl] at s1 ⊢
      have kk := (Fr.push (F := []) (o := .cells #[iv fl.err, iv fl.pos] 27)).cell' ((f3.blk bK (by simp)).cell 0) (by simp)
      rw [s1] at kk
      refine ⟨?_⟩
      simp (disch := omega) only [go_sem, ↓cw_block, dsB_of, fltV, kk, s1]
      exact fin ⟨rfl, ((((f0.trans g0).trans f1).trans Fr.push).trans f3).trans Fr.push⟩
  · cases later
    · obtain ⟨l1, p1, s1, z1⟩ := pe_open ahF3
      have hl1 : ([112, 114, 111, 99, 32, 112, 32, 123, 32, 118, 97, 114, 32, 121, 32, 111, 102, 32, 49, 59, 32, 121, 32, 61, 32, 120, 59, 32, 125] : Str).length = 29 := rfl
      have hl2 : ([118, 97, 114, 32, 120, 32, 111, 102, 32, 49, 59, 32] : Str).length = 12 := rfl
      have hl3 : ([32, 118, 97, 114, 32, 120, 32, 111, 102, 32, 49, 59] : Str).length = 12 := rfl
      refine ⟨?_⟩
      simp (disch := omega) only [go_sem, ↓cw_block, dsB_of, w0, e0, hl1, hl2, hl3]
      rw [← hG]
      refine call_to (parse_spec p1) ?_
      intro r1 H1 hv
      refine Hush.out ?_
      obtain ⟨v1, rfl, f1, nl1⟩ := hv
      have nl1' := nl1.grow (Fr.push (F := []) (o := .cells #[iv 0, iv 0] 27))
      have bK : Blk (H1.push (.cells #[iv 0, iv 0] 27)) H1.size 27 [iv 0, iv 0] := Blk.new rfl
      refine ⟨?_⟩
      simp (disch := omega) only [go_sem, ↓cw_block, dsB_of, fltV]
      refine call_to (scCheck_spec nl1' z1) ?_
      intro r3 H3 hv
      refine Hush.out ?_
      obtain ⟨f3, rfl⟩ := hv
      obtain ⟨fl, hfl⟩ : ∃ fl, fl = scopeM l1 := ⟨_, rfl⟩
      rw [← hfl] at s1 ⊢
      have kk := (Fr.push (F := []) (o := .cells #[iv fl.err, iv fl.pos] 27)).cell' ((f3.blk bK (by simp)).cell 0) (by simp)
      rw [s1] at kk
      refine ⟨?_⟩
      simp (disch := omega) only [go_sem, ↓cw_block, dsB_of, fltV, kk, s1]
      exact fin ⟨rfl, ((((f0.trans g0).trans f1).trans Fr.push).trans f3).trans Fr.push⟩
    · obtain ⟨l1, p1, s1, z1⟩ := pe_open ahT3
      have hl1 : ([112, 114, 111, 99, 32, 112, 32, 123, 32, 118, 97, 114, 32, 121, 32, 111, 102, 32, 49, 59, 32, 121, 32, 61, 32, 120, 59, 32, 125] : Str).length = 29 := rfl
      have hl2 : ([118, 97, 114, 32, 120, 32, 111, 102, 32, 49, 59, 32] : Str).length = 12 := rfl
      have hl3 : ([32, 118, 97, 114, 32, 120, 32, 111, 102, 32, 49, 59] : Str).length = 12 := rfl
      refine ⟨?_⟩
      simp (disch := omega) only [go_sem, ↓cw_block, dsB_of, w0, e0, hl1, hl2, hl3]
      rw [← hG]
      refine call_to (parse_spec p1) ?_
      intro r1 H1 hv
      refine Hush.out ?_
      obtain ⟨v1, rfl, f1, nl1⟩ := hv
      have nl1' := nl1.grow (Fr.push (F := []) (o := .cells #[iv 0, iv 0] 27))
      have bK : Blk (H1.push (.cells #[iv 0, iv 0] 27)) H1.size 27 [iv 0, iv 0] := Blk.new rfl
      refine ⟨?_⟩
      simp (disch := omega) only [go_sem, ↓cw_block, dsB_of, fltV]
      refine call_to (scCheck_spec nl1' z1) ?_
      intro r3 H3 hv
      refine Hush.out ?_
      obtain ⟨f3, rfl⟩ := hv
      obtain ⟨fl, hfl⟩ : ∃ fl, fl = scopeM l1 := ⟨_, rfl⟩
      rw [← hfl] at s1 ⊢
      have kk := (Fr.push (F := []) (o := .cells #[iv fl.err, iv fl.pos] 27)).cell' ((f3.blk bK (by simp)).cell 0) (by simp)
      rw [s1] at kk
      refine ⟨?_⟩
      simp (disch := omega) only [go_sem, ↓cw_block, dsB_of, fltV, kk, s1]
      exact fin ⟨rfl, ((((f0.trans g0).trans f1).trans Fr.push).trans f3).trans Fr.push⟩
end
end Go.Proofs.Ytpjmhomogmpklaa

/- Proved: for every input the law ScopeAhead returns true, and its arguments read as they did. No condition. -/
namespace Go.Proofs.Ytpjmhomogmpklaa.scopeAhead
open Go.ChangeShapes Go.WideShapes Go.ChangeAt Go.RowKit Go.HL
set_option linter.unusedVariables false

theorem own : ownKnob Try.prog.godebug = none := by kernel_rfl
theorem laidOut : laidOutB Try.prog = true := by kernel_rfl

set_option maxRecDepth 100000 in
theorem lifted (os : Os) (started : os.Started) (H : Type) (enc : TypeId × Value → H) :
    ReturnsInHanded {} Try.checked os 6 .any (Rows.scopeAheadSpec.pre6 enc Try.prog Try.f6 Rows.scopeAheadRow.domain false) (Rows.scopeAheadSpec.post enc Try.prog Try.f6 false true false false) := by
  refine returnsInHanded_of_change (C := Try.checked) own started (by kernel_rfl) Try.func6
    (ChangeSpec.witness6 (enc := enc) (C := Try.checked) false ⟨#[], #[.int .u8 0, .bool false], []⟩ 8 (by kernel_rfl) (by kernel_rfl) (by kernel_rfl) (by kernel_rfl)) ?_
  intro W base args ds gs before hval0 hW _ _
  have hval : ∀ (j : Nat) t v, Try.f6.params[j]? = some t → args[j]? = some v → Value.okWide Try.prog W .any base t v := hval0
  have hW' := hW
  obtain ⟨p, q, hA0, hV, rfl, hfz, hnd⟩ := hW
  have hA : DataW.TrodAll enc Try.prog W 0 (fun _ => true) true Try.f6.params.toList args.toList ds p := hA0
  rw [Try.params6] at hA hval
  obtain ⟨v0, v1, d0, d1, p0, p1, rfl, rfl, rfl, t0, t1⟩ := trodAll_two hA
  obtain ⟨rfl, rfl⟩ := trodVars_none hV
  obtain ⟨m0, rfl, rfl, rfl, wm0⟩ := open_int Try.underlying5 (hval 0 5 v0 rfl rfl) t0
  have h0 : 0 ≤ m0 ∧ m0 ≤ 255 := by simpa [Lit.wf, IntKind.min, IntKind.max, IntKind.signed, IntKind.bits] using wm0
  obtain ⟨h1, rfl, rfl, rfl⟩ := open_bool Try.underlying4 (hval 1 4 v1 rfl rfl) t1
  have hcall := hcalls_of_callF Try.func6 rfl (by decide) (scopeAhead_spec (H := W.heap) (later := h1) h0)
  refine (calls_of_hcalls hcall (R := fun W' => Below W.heap.size W W') (fun W' hb => hb)).mono ?_
  rintro e W' ⟨v, rfl, rfl, hb⟩
  exact ⟨_, rfl, law_post laidOut (by rw [Try.params6]; intro t ht; simp at ht; rcases ht with rfl | rfl <;> exact ⟨by kernel_rfl, of_decide_eq_true (by kernel_rfl)⟩) (tb := 4) (by kernel_rfl) Try.underlying4 rfl rfl rfl rfl hW' hb⟩

theorem proved : Rows.ScopeAheadSaid :=
  OpenClaim.holds_of_wide 6 Try.f6 rfl rfl rfl rfl rfl rfl rfl ⟨rfl, rfl, rfl, rfl, rfl⟩ rfl rfl rfl rfl rfl (by kernel_rfl) Try.func6 (by kernel_rfl)
    (of_decide_eq_true (by kernel_rfl)) (by unfold Func.isWrapper; first | (rw [if_pos (by decide +kernel)]; kernel_rfl) | (rw [if_neg (by decide +kernel)]; exact ⟨rfl, rfl⟩))
    (fun os started H enc _ => lifted os started H enc)
#print axioms proved
end Go.Proofs.Ytpjmhomogmpklaa.scopeAhead
