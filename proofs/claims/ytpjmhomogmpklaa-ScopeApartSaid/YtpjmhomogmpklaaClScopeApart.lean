/- Proved: for every input the law ScopeApart returns true, and its arguments read as they did. No condition. -/
import Derived.Test.YtpjmhomogmpklaaMX9
import Derived.Test.YtpjmhomogmpklaaMX3
/- The laws on names: declared again; later. -/
namespace Go.Proofs.Ytpjmhomogmpklaa
open Go.HL
set_option maxRecDepth 10000
set_option linter.unusedSimpArgs false
set_option linter.unusedVariables false

theorem twM0 : psM 120 [118, 97, 114, 32, 120, 32, 111, 102, 32, 49, 59, 112, 114, 111, 99, 32, 113, 32, 123, 32, 118, 97, 114, 32, 121, 32, 111, 102, 32, 49, 59, 32, 125] = some (⟨0, 0⟩, ⟨0, 0⟩, true) := by decide +kernel
theorem tw00 : psM 120 [118, 97, 114, 32, 120, 32, 111, 102, 32, 49, 59, 118, 97, 114, 32, 120, 32, 111, 102, 32, 49, 59] = some (⟨0, 0⟩, ⟨20, 11⟩, true) := by decide +kernel
theorem tw01 : psM 120 [118, 97, 114, 32, 120, 32, 111, 102, 32, 49, 59, 99, 104, 97, 110, 32, 120, 91, 49, 93, 32, 111, 102, 32, 49, 59] = some (⟨0, 0⟩, ⟨20, 11⟩, true) := by decide +kernel
theorem tw02 : psM 120 [118, 97, 114, 32, 120, 32, 111, 102, 32, 49, 59, 112, 114, 111, 99, 32, 120, 32, 123, 32, 125] = some (⟨0, 0⟩, ⟨20, 11⟩, true) := by decide +kernel
theorem twM1 : psM 120 [99, 104, 97, 110, 32, 120, 91, 49, 93, 32, 111, 102, 32, 49, 59, 112, 114, 111, 99, 32, 113, 32, 123, 32, 118, 97, 114, 32, 121, 32, 111, 102, 32, 49, 59, 32, 125] = some (⟨0, 0⟩, ⟨0, 0⟩, true) := by decide +kernel
theorem tw10 : psM 120 [99, 104, 97, 110, 32, 120, 91, 49, 93, 32, 111, 102, 32, 49, 59, 118, 97, 114, 32, 120, 32, 111, 102, 32, 49, 59] = some (⟨0, 0⟩, ⟨20, 15⟩, true) := by decide +kernel
theorem tw11 : psM 120 [99, 104, 97, 110, 32, 120, 91, 49, 93, 32, 111, 102, 32, 49, 59, 99, 104, 97, 110, 32, 120, 91, 49, 93, 32, 111, 102, 32, 49, 59] = some (⟨0, 0⟩, ⟨20, 15⟩, true) := by decide +kernel
theorem tw12 : psM 120 [99, 104, 97, 110, 32, 120, 91, 49, 93, 32, 111, 102, 32, 49, 59, 112, 114, 111, 99, 32, 120, 32, 123, 32, 125] = some (⟨0, 0⟩, ⟨20, 15⟩, true) := by decide +kernel
theorem twM2 : psM 120 [112, 114, 111, 99, 32, 120, 32, 123, 32, 125, 112, 114, 111, 99, 32, 113, 32, 123, 32, 118, 97, 114, 32, 121, 32, 111, 102, 32, 49, 59, 32, 125] = some (⟨0, 0⟩, ⟨0, 0⟩, true) := by decide +kernel
theorem tw20 : psM 120 [112, 114, 111, 99, 32, 120, 32, 123, 32, 125, 118, 97, 114, 32, 120, 32, 111, 102, 32, 49, 59] = some (⟨0, 0⟩, ⟨20, 10⟩, true) := by decide +kernel
theorem tw21 : psM 120 [112, 114, 111, 99, 32, 120, 32, 123, 32, 125, 99, 104, 97, 110, 32, 120, 91, 49, 93, 32, 111, 102, 32, 49, 59] = some (⟨0, 0⟩, ⟨20, 10⟩, true) := by decide +kernel
theorem tw22 : psM 120 [112, 114, 111, 99, 32, 120, 32, 123, 32, 125, 112, 114, 111, 99, 32, 120, 32, 123, 32, 125] = some (⟨0, 0⟩, ⟨20, 10⟩, true) := by decide +kernel
theorem rem_cases (m : Int) (k : Int) (h : 0 < k) : 0 ≤ m % k ∧ m % k < k := ⟨Int.emod_nonneg m (by omega), Int.emod_lt_of_pos m h⟩
section
variable {H : Heap}
set_option maxHeartbeats 4000000 in
theorem scopeTwice_spec {m0 m1 : Int} (h0 : 0 ≤ m0 ∧ m0 ≤ 255) (h1 : 0 ≤ m1 ∧ m1 ≤ 255) : CallF Try.prog 5 [.int .u8 m0, .int .u8 m1] H (fun r H' => r = .bool true ∧ Fr [] H H') NoP := by
  have c0 := rem_cases m0 3 (by omega)
  have c1 := rem_cases m1 3 (by omega)
  have w0 : IntKind.i64.wrap m0 = m0 := IntWalk.i64_in _ (by omega)
  have w1 : IntKind.i64.wrap m1 = m1 := IntWalk.i64_in _ (by omega)
  refine callF_of Try.func5 rfl Try.ntmps5 Try.results5 (by decide) rfl ?_
  simp (disch := omega) only [go_sem, ↓cw_block, dsB_of]
  refine call_to w11awake_spec ?_
  intro r0 H0 hv
  refine Hush.out ?_
  obtain ⟨rfl, f0⟩ := hv
  obtain ⟨G, hG⟩ : ∃ G, G = H0.push (.cells #[sv [118, 97, 114, 32, 120, 32, 111, 102, 32, 49, 59], sv [99, 104, 97, 110, 32, 120, 91, 49, 93, 32, 111, 102, 32, 49, 59], sv [112, 114, 111, 99, 32, 120, 32, 123, 32, 125]] 9) := ⟨_, rfl⟩
  have g0 : Fr [] H0 G := by rw [hG]; exact Fr.push
  have hb : Blk G H0.size 9 [sv [118, 97, 114, 32, 120, 32, 111, 102, 32, 49, 59], sv [99, 104, 97, 110, 32, 120, 91, 49, 93, 32, 111, 102, 32, 49, 59], sv [112, 114, 111, 99, 32, 120, 32, 123, 32, 125]] := by rw [hG]; exact Blk.new rfl
  have q0 := hb.cell 0
  have q1 := hb.cell 1
  have q2 := hb.cell 2
  simp only [List.getElem?_cons_succ, List.getElem?_cons_zero] at q0 q1 q2
  have t0 : m0 % 3 = 0 ∨ m0 % 3 = 1 ∨ m0 % 3 = 2 := by omega
  have t1 : m1 % 3 = 0 ∨ m1 % 3 = 1 ∨ m1 % 3 = 2 := by omega
  rcases t0 with e0 | e0 | e0
  · rcases t1 with e1 | e1 | e1
    · obtain ⟨l1, p1, s1, z1⟩ := ps_open tw00
      obtain ⟨l2, p2, s2, z2⟩ := ps_open twM0
      have hln : ([118, 97, 114, 32, 120, 32, 111, 102, 32, 49, 59] : Str).length = 11 := rfl
      refine ⟨?_⟩
      simp (disch := omega) only [go_sem, ↓cw_block, dsB_of, w0, w1, e0, e1]
      rw [← hG]
      refine call_to (parse_spec p1) ?_
      intro r1 H1 hv
      refine Hush.out ?_
      obtain ⟨v1, rfl, f1, nl1⟩ := hv
      refine ⟨?_⟩
      simp (disch := omega) only [go_sem, ↓cw_block, dsB_of, fltV]
      refine call_to (parse_spec p2) ?_
      intro r2 H2 hv
      refine Hush.out ?_
      obtain ⟨v2, rfl, f2, nl2⟩ := hv
      have nl1' := nl1.grow ((Fr.push (F := [])).trans f2)
      obtain ⟨K, hK⟩ : ∃ K, K = H1.push (.cells #[iv 0, iv 0] 27) := ⟨_, rfl⟩
      have bK : Blk H2 H1.size 27 [iv 0, iv 0] := f2.blk (Blk.new rfl) (by simp)
      have kk := (Fr.push (F := []) (o := .cells #[iv 0, iv 0] 27)).cell' (bK.cell 0) (by simp)
      refine ⟨?_⟩
      simp (disch := omega) only [go_sem, ↓cw_block, dsB_of, fltV, kk]
      refine call_to (scCheck_spec (nl1'.grow Fr.push) z1) ?_
      intro r3 H3 hv
      refine Hush.out ?_
      obtain ⟨f3, rfl⟩ := hv
      rw [s1]
      refine ⟨?_⟩
      simp (disch := omega) only [go_sem, ↓cw_block, dsB_of, fltV, hln]
      refine call_to (scCheck_spec (nl2.grow ((Fr.push (F := [])).trans f3)) z2) ?_
      intro r4 H4 hv
      refine Hush.out ?_
      obtain ⟨f4, rfl⟩ := hv
      rw [s2]
      refine ⟨?_⟩
      simp (disch := omega) only [go_sem, ↓cw_block, dsB_of, fltV]
      exact fin ⟨rfl, ((((((f0.trans g0).trans f1).trans Fr.push).trans f2).trans Fr.push).trans f3).trans f4⟩
    · obtain ⟨l1, p1, s1, z1⟩ := ps_open tw01
      obtain ⟨l2, p2, s2, z2⟩ := ps_open twM0
      have hln : ([118, 97, 114, 32, 120, 32, 111, 102, 32, 49, 59] : Str).length = 11 := rfl
      refine ⟨?_⟩
      simp (disch := omega) only [go_sem, ↓cw_block, dsB_of, w0, w1, e0, e1]
      rw [← hG]
      refine call_to (parse_spec p1) ?_
      intro r1 H1 hv
      refine Hush.out ?_
      obtain ⟨v1, rfl, f1, nl1⟩ := hv
      refine ⟨?_⟩
      simp (disch := omega) only [go_sem, ↓cw_block, dsB_of, fltV]
      refine call_to (parse_spec p2) ?_
      intro r2 H2 hv
      refine Hush.out ?_
      obtain ⟨v2, rfl, f2, nl2⟩ := hv
      have nl1' := nl1.grow ((Fr.push (F := [])).trans f2)
      obtain ⟨K, hK⟩ : ∃ K, K = H1.push (.cells #[iv 0, iv 0] 27) := ⟨_, rfl⟩
      have bK : Blk H2 H1.size 27 [iv 0, iv 0] := f2.blk (Blk.new rfl) (by simp)
      have kk := (Fr.push (F := []) (o := .cells #[iv 0, iv 0] 27)).cell' (bK.cell 0) (by simp)
      refine ⟨?_⟩
      simp (disch := omega) only [go_sem, ↓cw_block, dsB_of, fltV, kk]
      refine call_to (scCheck_spec (nl1'.grow Fr.push) z1) ?_
      intro r3 H3 hv
      refine Hush.out ?_
      obtain ⟨f3, rfl⟩ := hv
      rw [s1]
      refine ⟨?_⟩
      simp (disch := omega) only [go_sem, ↓cw_block, dsB_of, fltV, hln]
      refine call_to (scCheck_spec (nl2.grow ((Fr.push (F := [])).trans f3)) z2) ?_
      intro r4 H4 hv
      refine Hush.out ?_
      obtain ⟨f4, rfl⟩ := hv
      rw [s2]
      refine ⟨?_⟩
      simp (disch := omega) only [go_sem, ↓cw_block, dsB_of, fltV]
      exact fin ⟨rfl, ((((((f0.trans g0).trans f1).trans Fr.push).trans f2).trans Fr.push).trans f3).trans f4⟩
    · obtain ⟨l1, p1, s1, z1⟩ := ps_open tw02
      obtain ⟨l2, p2, s2, z2⟩ := ps_open twM0
      have hln : ([118, 97, 114, 32, 120, 32, 111, 102, 32, 49, 59] : Str).length = 11 := rfl
      refine ⟨?_⟩
      simp (disch := omega) only [go_sem, ↓cw_block, dsB_of, w0, w1, e0, e1]
      rw [← hG]
      refine call_to (parse_spec p1) ?_
      intro r1 H1 hv
      refine Hush.out ?_
      obtain ⟨v1, rfl, f1, nl1⟩ := hv
      refine ⟨?_⟩
      simp (disch := omega) only [go_sem, ↓cw_block, dsB_of, fltV]
      refine call_to (parse_spec p2) ?_
      intro r2 H2 hv
      refine Hush.out ?_
      obtain ⟨v2, rfl, f2, nl2⟩ := hv
      have nl1' := nl1.grow ((Fr.push (F := [])).trans f2)
      obtain ⟨K, hK⟩ : ∃ K, K = H1.push (.cells #[iv 0, iv 0] 27) := ⟨_, rfl⟩
      have bK : Blk H2 H1.size 27 [iv 0, iv 0] := f2.blk (Blk.new rfl) (by simp)
      have kk := (Fr.push (F := []) (o := .cells #[iv 0, iv 0] 27)).cell' (bK.cell 0) (by simp)
      refine ⟨?_⟩
      simp (disch := omega) only [go_sem, ↓cw_block, dsB_of, fltV, kk]
      refine call_to (scCheck_spec (nl1'.grow Fr.push) z1) ?_
      intro r3 H3 hv
      refine Hush.out ?_
      obtain ⟨f3, rfl⟩ := hv
      rw [s1]
      refine ⟨?_⟩
      simp (disch := omega) only [go_sem, ↓cw_block, dsB_of, fltV, hln]
      refine call_to (scCheck_spec (nl2.grow ((Fr.push (F := [])).trans f3)) z2) ?_
      intro r4 H4 hv
      refine Hush.out ?_
      obtain ⟨f4, rfl⟩ := hv
      rw [s2]
      refine ⟨?_⟩
      simp (disch := omega) only [go_sem, ↓cw_block, dsB_of, fltV]
      exact fin ⟨rfl, ((((((f0.trans g0).trans f1).trans Fr.push).trans f2).trans Fr.push).trans f3).trans f4⟩
  · rcases t1 with e1 | e1 | e1
    · obtain ⟨l1, p1, s1, z1⟩ := ps_open tw10
      obtain ⟨l2, p2, s2, z2⟩ := ps_open twM1
      have hln : ([99, 104, 97, 110, 32, 120, 91, 49, 93, 32, 111, 102, 32, 49, 59] : Str).length = 15 := rfl
      refine ⟨?_⟩
      simp (disch := omega) only [go_sem, ↓cw_block, dsB_of, w0, w1, e0, e1]
      rw [← hG]
      refine call_to (parse_spec p1) ?_
      intro r1 H1 hv
      refine Hush.out ?_
      obtain ⟨v1, rfl, f1, nl1⟩ := hv
      refine ⟨?_⟩
      simp (disch := omega) only [go_sem, ↓cw_block, dsB_of, fltV]
      refine call_to (parse_spec p2) ?_
      intro r2 H2 hv
      refine Hush.out ?_
      obtain ⟨v2, rfl, f2, nl2⟩ := hv
      have nl1' := nl1.grow ((Fr.push (F := [])).trans f2)
      obtain ⟨K, hK⟩ : ∃ K, K = H1.push (.cells #[iv 0, iv 0] 27) := ⟨_, rfl⟩
      have bK : Blk H2 H1.size 27 [iv 0, iv 0] := f2.blk (Blk.new rfl) (by simp)
      have kk := (Fr.push (F := []) (o := .cells #[iv 0, iv 0] 27)).cell' (bK.cell 0) (by simp)
      refine ⟨?_⟩
      simp (disch := omega) only [go_sem, ↓cw_block, dsB_of, fltV, kk]
      refine call_to (scCheck_spec (nl1'.grow Fr.push) z1) ?_
      intro r3 H3 hv
      refine Hush.out ?_
      obtain ⟨f3, rfl⟩ := hv
      rw [s1]
      refine ⟨?_⟩
      simp (disch := omega) only [go_sem, ↓cw_block, dsB_of, fltV, hln]
      refine call_to (scCheck_spec (nl2.grow ((Fr.push (F := [])).trans f3)) z2) ?_
      intro r4 H4 hv
      refine Hush.out ?_
      obtain ⟨f4, rfl⟩ := hv
      rw [s2]
      refine ⟨?_⟩
      simp (disch := omega) only [go_sem, ↓cw_block, dsB_of, fltV]
      exact fin ⟨rfl, ((((((f0.trans g0).trans f1).trans Fr.push).trans f2).trans Fr.push).trans f3).trans f4⟩
    · obtain ⟨l1, p1, s1, z1⟩ := ps_open tw11
      obtain ⟨l2, p2, s2, z2⟩ := ps_open twM1
      have hln : ([99, 104, 97, 110, 32, 120, 91, 49, 93, 32, 111, 102, 32, 49, 59] : Str).length = 15 := rfl
      refine ⟨?_⟩
      simp (disch := omega) only [go_sem, ↓cw_block, dsB_of, w0, w1, e0, e1]
      rw [← hG]
      refine call_to (parse_spec p1) ?_
      intro r1 H1 hv
      refine Hush.out ?_
      obtain ⟨v1, rfl, f1, nl1⟩ := hv
      refine ⟨?_⟩
      simp (disch := omega) only [go_sem, ↓cw_block, dsB_of, fltV]
      refine call_to (parse_spec p2) ?_
      intro r2 H2 hv
      refine Hush.out ?_
      obtain ⟨v2, rfl, f2, nl2⟩ := hv
      have nl1' := nl1.grow ((Fr.push (F := [])).trans f2)
      obtain ⟨K, hK⟩ : ∃ K, K = H1.push (.cells #[iv 0, iv 0] 27) := ⟨_, rfl⟩
      have bK : Blk H2 H1.size 27 [iv 0, iv 0] := f2.blk (Blk.new rfl) (by simp)
      have kk := (Fr.push (F := []) (o := .cells #[iv 0, iv 0] 27)).cell' (bK.cell 0) (by simp)
      refine ⟨?_⟩
      simp (disch := omega) only [go_sem, ↓cw_block, dsB_of, fltV, kk]
      refine call_to (scCheck_spec (nl1'.grow Fr.push) z1) ?_
      intro r3 H3 hv
      refine Hush.out ?_
      obtain ⟨f3, rfl⟩ := hv
      rw [s1]
      refine ⟨?_⟩
      simp (disch := omega) only [go_sem, ↓cw_block, dsB_of, fltV, hln]
      refine call_to (scCheck_spec (nl2.grow ((Fr.push (F := [])).trans f3)) z2) ?_
      intro r4 H4 hv
      refine Hush.out ?_
      obtain ⟨f4, rfl⟩ := hv
      rw [s2]
      refine ⟨?_⟩
      simp (disch := omega) only [go_sem, ↓cw_block, dsB_of, fltV]
      exact fin ⟨rfl, ((((((f0.trans g0).trans f1).trans Fr.push).trans f2).trans Fr.push).trans f3).trans f4⟩
    · obtain ⟨l1, p1, s1, z1⟩ := ps_open tw12
      obtain ⟨l2, p2, s2, z2⟩ := ps_open twM1
      have hln : ([99, 104, 97, 110, 32, 120, 91, 49, 93, 32, 111, 102, 32, 49, 59] : Str).length = 15 := rfl
      refine ⟨?_⟩
      simp (disch := omega) only [go_sem, ↓cw_block, dsB_of, w0, w1, e0, e1]
      rw [← hG]
      refine call_to (parse_spec p1) ?_
      intro r1 H1 hv
      refine Hush.out ?_
      obtain ⟨v1, rfl, f1, nl1⟩ := hv
      refine ⟨?_⟩
      simp (disch := omega) only [go_sem, ↓cw_block, dsB_of, fltV]
      refine call_to (parse_spec p2) ?_
      intro r2 H2 hv
      refine Hush.out ?_
      obtain ⟨v2, rfl, f2, nl2⟩ := hv
      have nl1' := nl1.grow ((Fr.push (F := [])).trans f2)
      obtain ⟨K, hK⟩ : ∃ K, K = H1.push (.cells #[iv 0, iv 0] 27) := ⟨_, rfl⟩
      have bK : Blk H2 H1.size 27 [iv 0, iv 0] := f2.blk (Blk.new rfl) (by simp)
      have kk := (Fr.push (F := []) (o := .cells #[iv 0, iv 0] 27)).cell' (bK.cell 0) (by simp)
      refine ⟨?_⟩
      simp (disch := omega) only [go_sem, ↓cw_block, dsB_of, fltV, kk]
      refine call_to (scCheck_spec (nl1'.grow Fr.push) z1) ?_
      intro r3 H3 hv
      refine Hush.out ?_
      obtain ⟨f3, rfl⟩ := hv
      rw [s1]
      refine ⟨?_⟩
      simp (disch := omega) only [go_sem, ↓cw_block, dsB_of, fltV, hln]
      refine call_to (scCheck_spec (nl2.grow ((Fr.push (F := [])).trans f3)) z2) ?_
      intro r4 H4 hv
      refine Hush.out ?_
      obtain ⟨f4, rfl⟩ := hv
      rw [s2]
      refine ⟨?_⟩
      simp (disch := omega) only [go_sem, ↓cw_block, dsB_of, fltV]
      exact fin ⟨rfl, ((((((f0.trans g0).trans f1).trans Fr.push).trans f2).trans Fr.push).trans f3).trans f4⟩
  · rcases t1 with e1 | e1 | e1
    · obtain ⟨l1, p1, s1, z1⟩ := ps_open tw20
      obtain ⟨l2, p2, s2, z2⟩ := ps_open twM2
      have hln : ([112, 114, 111, 99, 32, 120, 32, 123, 32, 125] : Str).length = 10 := rfl
      refine ⟨?_⟩
      simp (disch := omega) only [go_sem, ↓cw_block, dsB_of, w0, w1, e0, e1]
      rw [← hG]
      refine call_to (parse_spec p1) ?_
      intro r1 H1 hv
      refine Hush.out ?_
      obtain ⟨v1, rfl, f1, nl1⟩ := hv
      refine ⟨?_⟩
      simp (disch := omega) only [go_sem, ↓cw_block, dsB_of, fltV]
      refine call_to (parse_spec p2) ?_
      intro r2 H2 hv
      refine Hush.out ?_
      obtain ⟨v2, rfl, f2, nl2⟩ := hv
      have nl1' := nl1.grow ((Fr.push (F := [])).trans f2)
      obtain ⟨K, hK⟩ : ∃ K, K = H1.push (.cells #[iv 0, iv 0] 27) := ⟨_, rfl⟩
      have bK : Blk H2 H1.size 27 [iv 0, iv 0] := f2.blk (Blk.new rfl) (by simp)
      have kk := (Fr.push (F := []) (o := .cells #[iv 0, iv 0] 27)).cell' (bK.cell 0) (by simp)
      refine ⟨?_⟩
      simp (disch := omega) only [go_sem, ↓cw_block, dsB_of, fltV, kk]
      refine call_to (scCheck_spec (nl1'.grow Fr.push) z1) ?_
      intro r3 H3 hv
      refine Hush.out ?_
      obtain ⟨f3, rfl⟩ := hv
      rw [s1]
      refine ⟨?_⟩
      simp (disch := omega) only [go_sem, ↓cw_block, dsB_of, fltV, hln]
      refine call_to (scCheck_spec (nl2.grow ((Fr.push (F := [])).trans f3)) z2) ?_
      intro r4 H4 hv
      refine Hush.out ?_
      obtain ⟨f4, rfl⟩ := hv
      rw [s2]
      refine ⟨?_⟩
      simp (disch := omega) only [go_sem, ↓cw_block, dsB_of, fltV]
      exact fin ⟨rfl, ((((((f0.trans g0).trans f1).trans Fr.push).trans f2).trans Fr.push).trans f3).trans f4⟩
    · obtain ⟨l1, p1, s1, z1⟩ := ps_open tw21
      obtain ⟨l2, p2, s2, z2⟩ := ps_open twM2
      have hln : ([112, 114, 111, 99, 32, 120, 32, 123, 32, 125] : Str).length = 10 := rfl
      refine ⟨?_⟩
      simp (disch := omega) only [go_sem, ↓cw_block, dsB_of, w0, w1, e0, e1]
      rw [← hG]
      refine call_to (parse_spec p1) ?_
      intro r1 H1 hv
      refine Hush.out ?_
      obtain ⟨v1, rfl, f1, nl1⟩ := hv
      refine ⟨?_⟩
      simp (disch := omega) only [go_sem, ↓cw_block, dsB_of, fltV]
      refine call_to (parse_spec p2) ?_
      intro r2 H2 hv
      refine Hush.out ?_
      obtain ⟨v2, rfl, f2, nl2⟩ := hv
      have nl1' := nl1.grow ((Fr.push (F := [])).trans f2)
      obtain ⟨K, hK⟩ : ∃ K, K = H1.push (.cells #[iv 0, iv 0] 27) := ⟨_, rfl⟩
      have bK : Blk H2 H1.size 27 [iv 0, iv 0] := f2.blk (Blk.new rfl) (by simp)
      have kk := (Fr.push (F := []) (o := .cells #[iv 0, iv 0] 27)).cell' (bK.cell 0) (by simp)
      refine ⟨?_⟩
      simp (disch := omega) only [go_sem, ↓cw_block, dsB_of, fltV, kk]
      refine call_to (scCheck_spec (nl1'.grow Fr.push) z1) ?_
      intro r3 H3 hv
      refine Hush.out ?_
      obtain ⟨f3, rfl⟩ := hv
      rw [s1]
      refine ⟨?_⟩
      simp (disch := omega) only [go_sem, ↓cw_block, dsB_of, fltV, hln]
      refine call_to (scCheck_spec (nl2.grow ((Fr.push (F := [])).trans f3)) z2) ?_
      intro r4 H4 hv
      refine Hush.out ?_
      obtain ⟨f4, rfl⟩ := hv
      rw [s2]
      refine ⟨?_⟩
      simp (disch := omega) only [go_sem, ↓cw_block, dsB_of, fltV]
      exact fin ⟨rfl, ((((((f0.trans g0).trans f1).trans Fr.push).trans f2).trans Fr.push).trans f3).trans f4⟩
    · obtain ⟨l1, p1, s1, z1⟩ := ps_open tw22
      obtain ⟨l2, p2, s2, z2⟩ := ps_open twM2
      have hln : ([112, 114, 111, 99, 32, 120, 32, 123, 32, 125] : Str).length = 10 := rfl
      refine ⟨?_⟩
      simp (disch := omega) only [go_sem, ↓cw_block, dsB_of, w0, w1, e0, e1]
      rw [← hG]
      refine call_to (parse_spec p1) ?_
      intro r1 H1 hv
      refine Hush.out ?_
      obtain ⟨v1, rfl, f1, nl1⟩ := hv
      refine ⟨?_⟩
      simp (disch := omega) only [go_sem, ↓cw_block, dsB_of, fltV]
      refine call_to (parse_spec p2) ?_
      intro r2 H2 hv
      refine Hush.out ?_
      obtain ⟨v2, rfl, f2, nl2⟩ := hv
      have nl1' := nl1.grow ((Fr.push (F := [])).trans f2)
      obtain ⟨K, hK⟩ : ∃ K, K = H1.push (.cells #[iv 0, iv 0] 27) := ⟨_, rfl⟩
      have bK : Blk H2 H1.size 27 [iv 0, iv 0] := f2.blk (Blk.new rfl) (by simp)
      have kk := (Fr.push (F := []) (o := .cells #[iv 0, iv 0] 27)).cell' (bK.cell 0) (by simp)
      refine ⟨?_⟩
      simp (disch := omega) only [go_sem, ↓cw_block, dsB_of, fltV, kk]
      refine call_to (scCheck_spec (nl1'.grow Fr.push) z1) ?_
      intro r3 H3 hv
      refine Hush.out ?_
      obtain ⟨f3, rfl⟩ := hv
      rw [s1]
      refine ⟨?_⟩
      simp (disch := omega) only [go_sem, ↓cw_block, dsB_of, fltV, hln]
      refine call_to (scCheck_spec (nl2.grow ((Fr.push (F := [])).trans f3)) z2) ?_
      intro r4 H4 hv
      refine Hush.out ?_
      obtain ⟨f4, rfl⟩ := hv
      rw [s2]
      refine ⟨?_⟩
      simp (disch := omega) only [go_sem, ↓cw_block, dsB_of, fltV]
      exact fin ⟨rfl, ((((((f0.trans g0).trans f1).trans Fr.push).trans f2).trans Fr.push).trans f3).trans f4⟩
end
end Go.Proofs.Ytpjmhomogmpklaa

/- The laws on names: apart. -/
namespace Go.HL
/-- One byte as a text. -/
theorem conv_byte {P : Program} {H : Heap} {s d e b o c : Nat} {n : Int} (hs : P.underlying s = some (.slice e)) (he : P.underlying e = some (.int .u8)) (hd : P.underlying d = some .string) (hc : cellH H ⟨b, o, none⟩ = some (.int .u8 n)) :
    convV P (full H) s d (.slice (some ⟨b, o, none⟩) 1 c) = some (.string (bs [UInt8.ofNat n.toNat])) := by
  show qrun P (convert s d (.slice (some ⟨b, o, none⟩) 1 c)) H = _
  unfold convert
  rw [qrun_bind', qrun_underlying hs, Option.bind_some, qrun_bind', qrun_underlying hd, Option.bind_some]
  show qrun P (do match ← underlying e with
    | .int .u8 => Conv.bytesToString (.slice (some ⟨b, o, none⟩) 1 c)
    | .int .i32 => Conv.runesToString (.slice (some ⟨b, o, none⟩) 1 c)
    | _ => stuck "Convert: a slice of what to string?") H = _
  rw [qrun_bind', qrun_underlying he, Option.bind_some]
  show qrun P (Conv.bytesToString (.slice (some ⟨b, o, none⟩) 1 c)) H = _
  unfold Conv.bytesToString
  simp only [qrun_bind']
  have hl : qrun P (loadCells ⟨b, o, none⟩ 1) H = some #[.int .u8 n] := by
    unfold loadCells
    have := qrun_loadCellsFrom (P := P) (H := H) (a := ⟨b, o, none⟩) 1 0 #[] [.int .u8 n] (by simp [cellsH, Addr.add, hc])
    simpa using this
  rw [hl, Option.bind_some]
  rfl
end Go.HL
namespace Go.Proofs.Ytpjmhomogmpklaa
open Go.HL
set_option maxRecDepth 10000
set_option linter.unusedSimpArgs false
set_option linter.unusedVariables false

def apS : Nat → Str
  | 0 => []
  | i + 1 => ((apS i ++ [112, 114, 111, 99, 32, 112]) ++ [UInt8.ofNat (97 + i)]) ++ [32, 123, 32, 118, 97, 114, 32, 122, 32, 111, 102, 32, 49, 59, 32, 122, 32, 61, 32, 49, 59, 32, 125, 10]
theorem apS_len : ∀ i, (apS i).length = 31 * i
  | 0 => rfl
  | i + 1 => by simp [apS, apS_len i]; omega
theorem ap10 : psM 400 (apS 1) = some (⟨0, 0⟩, ⟨0, 0⟩, true) := by decide +kernel
theorem ap11 : psM 400 (apS 1 ++ [115, 97, 102, 101, 32, 122, 59]) = some (⟨0, 0⟩, ⟨20, 36⟩, true) := by decide +kernel
theorem ap12 : psM 400 (apS 1 ++ [112, 114, 111, 99, 32, 113, 32, 123, 32, 122, 32, 61, 32, 49, 59, 32, 125]) = some (⟨0, 0⟩, ⟨20, 40⟩, true) := by decide +kernel
theorem ap20 : psM 400 (apS 2) = some (⟨0, 0⟩, ⟨0, 0⟩, true) := by decide +kernel
theorem ap21 : psM 400 (apS 2 ++ [115, 97, 102, 101, 32, 122, 59]) = some (⟨0, 0⟩, ⟨20, 67⟩, true) := by decide +kernel
theorem ap22 : psM 400 (apS 2 ++ [112, 114, 111, 99, 32, 113, 32, 123, 32, 122, 32, 61, 32, 49, 59, 32, 125]) = some (⟨0, 0⟩, ⟨20, 71⟩, true) := by decide +kernel
theorem ap30 : psM 400 (apS 3) = some (⟨0, 0⟩, ⟨0, 0⟩, true) := by decide +kernel
theorem ap31 : psM 400 (apS 3 ++ [115, 97, 102, 101, 32, 122, 59]) = some (⟨0, 0⟩, ⟨20, 98⟩, true) := by decide +kernel
theorem ap32 : psM 400 (apS 3 ++ [112, 114, 111, 99, 32, 113, 32, 123, 32, 122, 32, 61, 32, 49, 59, 32, 125]) = some (⟨0, 0⟩, ⟨20, 102⟩, true) := by decide +kernel
theorem ap40 : psM 400 (apS 4) = some (⟨0, 0⟩, ⟨0, 0⟩, true) := by decide +kernel
theorem ap41 : psM 400 (apS 4 ++ [115, 97, 102, 101, 32, 122, 59]) = some (⟨0, 0⟩, ⟨20, 129⟩, true) := by decide +kernel
theorem ap42 : psM 400 (apS 4 ++ [112, 114, 111, 99, 32, 113, 32, 123, 32, 122, 32, 61, 32, 49, 59, 32, 125]) = some (⟨0, 0⟩, ⟨20, 133⟩, true) := by decide +kernel
theorem ap50 : psM 400 (apS 5) = some (⟨0, 0⟩, ⟨0, 0⟩, true) := by decide +kernel
theorem ap51 : psM 400 (apS 5 ++ [115, 97, 102, 101, 32, 122, 59]) = some (⟨0, 0⟩, ⟨20, 160⟩, true) := by decide +kernel
theorem ap52 : psM 400 (apS 5 ++ [112, 114, 111, 99, 32, 113, 32, 123, 32, 122, 32, 61, 32, 49, 59, 32, 125]) = some (⟨0, 0⟩, ⟨20, 164⟩, true) := by decide +kernel
theorem ap60 : psM 400 (apS 6) = some (⟨0, 0⟩, ⟨0, 0⟩, true) := by decide +kernel
theorem ap61 : psM 400 (apS 6 ++ [115, 97, 102, 101, 32, 122, 59]) = some (⟨0, 0⟩, ⟨20, 191⟩, true) := by decide +kernel
theorem ap62 : psM 400 (apS 6 ++ [112, 114, 111, 99, 32, 113, 32, 123, 32, 122, 32, 61, 32, 49, 59, 32, 125]) = some (⟨0, 0⟩, ⟨20, 195⟩, true) := by decide +kernel
theorem apA0 {k : Nat} (h : 1 ≤ k ∧ k ≤ 6) : psM 400 (apS k) = some (⟨0, 0⟩, ⟨0, 0⟩, true) := by
  have : k = 1 ∨ k = 2 ∨ k = 3 ∨ k = 4 ∨ k = 5 ∨ k = 6 := by omega
  rcases this with rfl | rfl | rfl | rfl | rfl | rfl
  · exact ap10
  · exact ap20
  · exact ap30
  · exact ap40
  · exact ap50
  · exact ap60
theorem apA1 {k : Nat} (h : 1 ≤ k ∧ k ≤ 6) : psM 400 (apS k ++ [115, 97, 102, 101, 32, 122, 59]) = some (⟨0, 0⟩, ⟨20, ((31 * k + 5 : Nat) : Int)⟩, true) := by
  have : k = 1 ∨ k = 2 ∨ k = 3 ∨ k = 4 ∨ k = 5 ∨ k = 6 := by omega
  rcases this with rfl | rfl | rfl | rfl | rfl | rfl
  · exact ap11
  · exact ap21
  · exact ap31
  · exact ap41
  · exact ap51
  · exact ap61
theorem apA2 {k : Nat} (h : 1 ≤ k ∧ k ≤ 6) : psM 400 (apS k ++ [112, 114, 111, 99, 32, 113, 32, 123, 32, 122, 32, 61, 32, 49, 59, 32, 125]) = some (⟨0, 0⟩, ⟨20, ((31 * k + 9 : Nat) : Int)⟩, true) := by
  have : k = 1 ∨ k = 2 ∨ k = 3 ∨ k = 4 ∨ k = 5 ∨ k = 6 := by omega
  rcases this with rfl | rfl | rfl | rfl | rfl | rfl
  · exact ap12
  · exact ap22
  · exact ap32
  · exact ap42
  · exact ap52
  · exact ap62
section
variable {H : Heap}
set_option maxHeartbeats 4000000 in
theorem scopeApart_spec {m0 m1 : Int} (h0 : 0 ≤ m0 ∧ m0 ≤ 255) (h1 : 0 ≤ m1 ∧ m1 ≤ 255) : CallF Try.prog 4 [.int .u8 m0, .int .u8 m1] H (fun r H' => r = .bool true ∧ Fr [] H H') NoP := by
  have c0 := rem_cases m0 6 (by omega)
  have c1 := rem_cases m1 3 (by omega)
  have w0 : IntKind.i64.wrap m0 = m0 := IntWalk.i64_in _ (by omega)
  obtain ⟨k, hk⟩ : ∃ k : Nat, 1 + m0 % 6 = (k : Int) := ⟨(1 + m0 % 6).toNat, by omega⟩
  have hk6 : 1 ≤ k ∧ k ≤ 6 := by omega
  refine callF_of Try.func4 rfl Try.ntmps4 Try.results4 (by decide) rfl ?_
  simp (disch := omega) only [go_sem, ↓cw_block, dsB_of]
  refine call_to w11awake_spec ?_
  intro r0 H0 hv
  refine Hush.out ?_
  obtain ⟨rfl, f0⟩ := hv
  refine ⟨?_⟩
  simp (disch := omega) only [go_sem, ↓cw_block, dsB_of, w0, hk]
  refine loop_by (fun m ρ H2 => ∃ i : Nat, m = k - i ∧ i ≤ k ∧ Fr [] H0 H2 ∧ (ρ.get 1 = .int .u8 m1 ∧ ρ.get 5 = iv k ∧ ρ.get 6 = sv (apS i) ∧ ρ.get 7 = iv i ∧ ρ.ds = [])) (k := k) ?_ ?_
  · exact ⟨0, rfl, by omega, Fr.refl _ _, by (simp (disch := omega) only [go_sem, ↓cw_block, dsB_of, hk]) <;> simp [apS]⟩
  · rintro m ρ H2 ⟨i, rfl, hi, fr2, r1, r5, r6, r7, rd⟩
    have hxi : (i : Int) + 1 = ((i + 1 : Nat) : Int) := by omega
    have hla : ([112, 114, 111, 99, 32, 112] : Str).length = 6 := rfl
    have hlb : ([32, 123, 32, 118, 97, 114, 32, 122, 32, 111, 102, 32, 49, 59, 32, 122, 32, 61, 32, 49, 59, 32, 125, 10] : Str).length = 24 := rfl
    have hln := apS_len i
    by_cases hin : i < k
    · have hwr : IntKind.u8.wrap (97 + (i : Int)) = 97 + (i : Int) := by simp [IntKind.wrap, IntKind.bits, IntKind.signed]; omega
      have hbt : (97 + (i : Int)).toNat = 97 + i := by omega
      have hcv : convV Try.prog (full (H2.push (.cells #[.int .u8 (97 + (i : Int))] 5))) 29 9 (.slice (some ⟨H2.size, 0, none⟩) 1 1) = some (.string (bs [UInt8.ofNat (97 + i)])) := by
        have := conv_byte (P := Try.prog) (H := H2.push (.cells #[.int .u8 (97 + (i : Int))] 5)) (b := H2.size) (o := 0) (c := 1) Try.underlying29 Try.underlying5 Try.underlying9 ((Blk.new (vs := [.int .u8 (97 + (i : Int))]) rfl).cell 0)
        rw [hbt] at this
        exact this
      have hl1 : (apS i ++ [112, 114, 111, 99, 32, 112]).length = 31 * i + 6 := by rw [List.length_append, hln, hla]
      have hl2 : ((apS i ++ [112, 114, 111, 99, 32, 112]) ++ [UInt8.ofNat (97 + i)]).length = 31 * i + 7 := by rw [List.length_append, hl1]; rfl
      have hl3 : ([UInt8.ofNat (97 + i)] : Str).length = 1 := rfl
      simp (disch := omega) only [go_sem, ↓cw_block, dsB_of, r1, r5, r6, r7, rd, hwr, hcv, hla, hlb, hln, hl1, hl2, hl3]
      exact fin ⟨k - (i + 1), by omega, i + 1, rfl, by omega, fr2.trans Fr.push, by (simp (disch := omega) only [go_sem, ↓cw_block, dsB_of, r1, r5, r6, r7, rd, hxi]) <;> simp [apS]⟩
    obtain rfl : i = k := by omega
    have hls : ([115, 97, 102, 101, 32, 122, 59] : Str).length = 7 := rfl
    have hlq : ([112, 114, 111, 99, 32, 113, 32, 123, 32, 122, 32, 61, 32, 49, 59, 32, 125] : Str).length = 17 := rfl
    have t1 : m1 % 3 = 0 ∨ m1 % 3 = 1 ∨ m1 % 3 = 2 := by omega
    have wu : IntKind.u8.wrap (m1 % 3) = m1 % 3 := by simp [IntKind.wrap, IntKind.bits, IntKind.signed]; omega
    have hcast : ((31 * i : Nat) : Int) + 5 = ((31 * i + 5 : Nat) : Int) := by omega
    have hcast9 : ((31 * i : Nat) : Int) + 9 = ((31 * i + 9 : Nat) : Int) := by omega
    rcases t1 with e1 | e1 | e1
    · obtain ⟨l1, p1, s1, z1⟩ := ps_open (apA0 hk6)
      simp (disch := omega) only [go_sem, ↓cw_block, dsB_of, r1, r5, r6, r7, rd, e1, wu, hln, hls, hlq]
      refine call_to (parse_spec p1) ?_
      intro r1' H1 hv
      refine Hush.out ?_
      obtain ⟨v1, rfl, f1, nl1⟩ := hv
      have nl1' := nl1.grow (Fr.push (F := []) (o := .cells #[iv 0, iv 0] 27))
      refine ⟨?_⟩
      simp (disch := omega) only [go_sem, ↓cw_block, dsB_of, fltV, r1, r5, r6, r7, rd]
      refine call_to (scCheck_spec nl1' z1) ?_
      intro r3 H3 hv
      refine Hush.out ?_
      obtain ⟨f3, rfl⟩ := hv
      rw [s1]
      refine ⟨?_⟩
      simp (disch := omega) only [go_sem, ↓cw_block, dsB_of, fltV, r1, r5, r6, r7, rd, hln, hcast, hcast9]
      exact fin ⟨rfl, ((((f0.trans fr2).trans f1).trans Fr.push).trans f3)⟩
    · obtain ⟨l1, p1, s1, z1⟩ := ps_open (apA1 hk6)
      simp (disch := omega) only [go_sem, ↓cw_block, dsB_of, r1, r5, r6, r7, rd, e1, wu, hln, hls, hlq]
      refine call_to (parse_spec p1) ?_
      intro r1' H1 hv
      refine Hush.out ?_
      obtain ⟨v1, rfl, f1, nl1⟩ := hv
      have nl1' := nl1.grow (Fr.push (F := []) (o := .cells #[iv 0, iv 0] 27))
      refine ⟨?_⟩
      simp (disch := omega) only [go_sem, ↓cw_block, dsB_of, fltV, r1, r5, r6, r7, rd]
      refine call_to (scCheck_spec nl1' z1) ?_
      intro r3 H3 hv
      refine Hush.out ?_
      obtain ⟨f3, rfl⟩ := hv
      rw [s1]
      refine ⟨?_⟩
      simp (disch := omega) only [go_sem, ↓cw_block, dsB_of, fltV, r1, r5, r6, r7, rd, hln, hcast, hcast9]
      exact fin ⟨rfl, ((((f0.trans fr2).trans f1).trans Fr.push).trans f3)⟩
    · obtain ⟨l1, p1, s1, z1⟩ := ps_open (apA2 hk6)
      simp (disch := omega) only [go_sem, ↓cw_block, dsB_of, r1, r5, r6, r7, rd, e1, wu, hln, hls, hlq]
      refine call_to (parse_spec p1) ?_
      intro r1' H1 hv
      refine Hush.out ?_
      obtain ⟨v1, rfl, f1, nl1⟩ := hv
      have nl1' := nl1.grow (Fr.push (F := []) (o := .cells #[iv 0, iv 0] 27))
      refine ⟨?_⟩
      simp (disch := omega) only [go_sem, ↓cw_block, dsB_of, fltV, r1, r5, r6, r7, rd]
      refine call_to (scCheck_spec nl1' z1) ?_
      intro r3 H3 hv
      refine Hush.out ?_
      obtain ⟨f3, rfl⟩ := hv
      rw [s1]
      refine ⟨?_⟩
      simp (disch := omega) only [go_sem, ↓cw_block, dsB_of, fltV, r1, r5, r6, r7, rd, hln, hcast, hcast9]
      exact fin ⟨rfl, ((((f0.trans fr2).trans f1).trans Fr.push).trans f3)⟩
end
end Go.Proofs.Ytpjmhomogmpklaa

/- Proved: for every input the law ScopeApart returns true, and its arguments read as they did. No condition. -/
namespace Go.Proofs.Ytpjmhomogmpklaa.scopeApart
open Go.ChangeShapes Go.WideShapes Go.ChangeAt Go.RowKit Go.HL
set_option linter.unusedVariables false

theorem own : ownKnob Try.prog.godebug = none := by kernel_rfl
theorem laidOut : laidOutB Try.prog = true := by kernel_rfl

set_option maxRecDepth 100000 in
theorem lifted (os : Os) (started : os.Started) (H : Type) (enc : TypeId × Value → H) :
    ReturnsInHanded {} Try.checked os 4 .any (Rows.scopeApartSpec.pre6 enc Try.prog Try.f4 Rows.scopeApartRow.domain false) (Rows.scopeApartSpec.post enc Try.prog Try.f4 false true false false) := by
  refine returnsInHanded_of_change (C := Try.checked) own started (by kernel_rfl) Try.func4
    (ChangeSpec.witness6 (enc := enc) (C := Try.checked) false ⟨#[], #[.int .u8 0, .int .u8 0], []⟩ 8 (by kernel_rfl) (by kernel_rfl) (by kernel_rfl) (by kernel_rfl)) ?_
  intro W base args ds gs before hval0 hW _ _
  have hval : ∀ (j : Nat) t v, Try.f4.params[j]? = some t → args[j]? = some v → Value.okWide Try.prog W .any base t v := hval0
  have hW' := hW
  obtain ⟨p, q, hA0, hV, rfl, hfz, hnd⟩ := hW
  have hA : DataW.TrodAll enc Try.prog W 0 (fun _ => true) true Try.f4.params.toList args.toList ds p := hA0
  rw [Try.params4] at hA hval
  obtain ⟨v0, v1, d0, d1, p0, p1, rfl, rfl, rfl, t0, t1⟩ := trodAll_two hA
  obtain ⟨rfl, rfl⟩ := trodVars_none hV
  obtain ⟨m0, rfl, rfl, rfl, wm0⟩ := open_int Try.underlying5 (hval 0 5 v0 rfl rfl) t0
  have h0 : 0 ≤ m0 ∧ m0 ≤ 255 := by simpa [Lit.wf, IntKind.min, IntKind.max, IntKind.signed, IntKind.bits] using wm0
  obtain ⟨m1, rfl, rfl, rfl, wm1⟩ := open_int Try.underlying5 (hval 1 5 v1 rfl rfl) t1
  have h1 : 0 ≤ m1 ∧ m1 ≤ 255 := by simpa [Lit.wf, IntKind.min, IntKind.max, IntKind.signed, IntKind.bits] using wm1
  have hcall := hcalls_of_callF Try.func4 rfl (by decide) (scopeApart_spec (H := W.heap) h0 h1)
  refine (calls_of_hcalls hcall (R := fun W' => Below W.heap.size W W') (fun W' hb => hb)).mono ?_
  rintro e W' ⟨v, rfl, rfl, hb⟩
  exact ⟨_, rfl, law_post laidOut (by rw [Try.params4]; intro t ht; simp at ht; rcases ht with rfl | rfl <;> exact ⟨by kernel_rfl, of_decide_eq_true (by kernel_rfl)⟩) (tb := 4) (by kernel_rfl) Try.underlying4 rfl rfl rfl rfl hW' hb⟩

theorem proved : Rows.ScopeApartSaid :=
  OpenClaim.holds_of_wide 4 Try.f4 rfl rfl rfl rfl rfl rfl rfl ⟨rfl, rfl, rfl, rfl, rfl⟩ rfl rfl rfl rfl rfl (by kernel_rfl) Try.func4 (by kernel_rfl)
    (of_decide_eq_true (by kernel_rfl)) (by unfold Func.isWrapper; first | (rw [if_pos (by decide +kernel)]; kernel_rfl) | (rw [if_neg (by decide +kernel)]; exact ⟨rfl, rfl⟩))
    (fun os started H enc _ => lifted os started H enc)
#print axioms proved
end Go.Proofs.Ytpjmhomogmpklaa.scopeApart
