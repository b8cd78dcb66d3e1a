/- Proved: for every input the law AutoPlaces returns true, and its arguments read as they did. No condition. -/
import Derived.Test.YtceipfakbklcbaaMXE
import Derived.Test.YtceipfakbklcbaaMXF
import Derived.Test.YtceipfakbklcbaaMX9
import Derived.Test.YtceipfakbklcbaaMX3

/- The law AutoPlaces, over heaps. -/
namespace Go.Proofs.Ytceipfakbklcbaa
open Go.HL
set_option maxRecDepth 10000
set_option linter.unusedSimpArgs false
set_option linter.unusedVariables false

section
variable {H : Heap} {S : Nat → Prop} {v : Value} {l : List Nd}
set_option maxHeartbeats 8000000 in
theorem autoPlaces_spec (h : NL H S v l) (hz : Sz l) : CallF Try.prog 3 [v] H (fun r H' => r = .bool true ∧ Fr [] H H') NoP := by
  refine callF_of Try.func3 rfl Try.ntmps3 Try.results3 (by decide) rfl ?_
  simp (disch := omega) only [go_sem, ↓cw_block, dsB_of]
  refine call_to w13awake_spec ?_
  intro r1 H1 hv
  refine Hush.out ?_
  obtain ⟨rfl, f1⟩ := hv
  have h1 := h.grow f1
  refine ⟨?_⟩
  simp (disch := omega) only [go_sem, ↓cw_block, dsB_of]
  refine call_to (r9Small_spec h1 hz) ?_
  rintro _ _ ⟨rfl, rfl⟩
  cases hs : smallM l
  · simp (disch := omega) only [go_sem, ↓cw_block, dsB_of]
    refine call_to w13awake_spec ?_
    intro r2 H2 hv
    refine Hush.out ?_
    obtain ⟨rfl, f2⟩ := hv
    refine ⟨?_⟩
    simp (disch := omega) only [go_sem, ↓cw_block, dsB_of]
    exact fin ⟨rfl, f1.trans f2⟩
  have hlen := small_len hs
  by_cases h0 : typM l = ⟨0, 0⟩
  rotate_left
  · simp (disch := omega) only [go_sem, ↓cw_block, dsB_of]
    refine call_to (auMake_no h1 hz h0) ?_
    intro r2 H2 hv
    refine Hush.out ?_
    obtain ⟨f2, rfl⟩ := hv
    have hmc : moC ⟨nilS, nilS, nilS, nilS, nilS⟩ mo0 = [nilS, iv 0, nilS, nilS, nilS, nilS, .bool false] := rfl
    rw [hmc]
    obtain ⟨A, hA⟩ : ∃ A, A = H2.push (.cells #[nilS, iv 0, nilS, nilS, nilS, nilS, .bool false] 30) := ⟨_, rfl⟩
    have f3 : Fr [] H2 A := by rw [hA]; exact Fr.push
    have bA : Blk A H2.size 30 [nilS, iv 0, nilS, nilS, nilS, nilS, .bool false] := by rw [hA]; exact Blk.new rfl
    have k4 := bA.cell 4
    simp only [List.getElem?_cons_succ, List.getElem?_cons_zero] at k4
    refine ⟨?_⟩
    simp (disch := omega) only [go_sem, ↓cw_block, dsB_of]
    rw [← hA]
    refine loop_by (fun k ρ H3 => H3 = A ∧ ρ.get 3 = hp H2.size ∧ ρ.get 5 = iv 0 ∧ ρ.ds = []) (k := 0) ?_ ?_
    · exact ⟨rfl, by (simp (disch := omega) only [go_sem, ↓cw_block, dsB_of])⟩
    · rintro k ρ _ ⟨rfl, r3, r5, rd⟩
      simp (disch := omega) only [go_sem, ↓cw_block, dsB_of, r3, r5, rd, k4]
      exact fin ⟨rfl, (f1.trans f2).trans f3⟩
  simp (disch := omega) only [go_sem, ↓cw_block, dsB_of]
  refine call_to (auMake_ok h1 hz h0) ?_
  intro r2 H2 hv
  refine Hush.out ?_
  obtain ⟨f2, w, aps, rfl, mr⟩ := hv
  obtain ⟨mo, hMl, hMv⟩ := modOk h0
  obtain ⟨M, hM⟩ : ∃ M, M = modM l := ⟨_, rfl⟩
  rw [← hM] at mr mo hMl hMv ⊢
  obtain ⟨d0, t0, d1, t1, d2, t2, d3, t3, d4, t4, w0', w1', w2', w3', w4'⟩ := mr.cells
  have hmc : moC w M = [.slice d0 l.length t0, iv M.globals, .slice d1 M.chans.length t1, .slice d2 M.vars.length t2, .slice d3 M.procs.length t3, .slice d4 M.safe.length t4, .bool M.dead] := by
    unfold moC; rw [w0', w1', w2', w3', w4']
  rw [hmc]
  obtain ⟨A, hA⟩ : ∃ A, A = H2.push (.cells #[.slice d0 l.length t0, iv M.globals, .slice d1 M.chans.length t1, .slice d2 M.vars.length t2, .slice d3 M.procs.length t3, .slice d4 M.safe.length t4, .bool M.dead] 30) := ⟨_, rfl⟩
  have f3 : Fr [] H2 A := by rw [hA]; exact Fr.push
  have bA : Blk A H2.size 30 (moC w M) := by rw [hA, hmc]; exact Blk.new rfl
  rw [hmc] at bA
  have mA := mr.frame (Keeps.of_fr f3 (by simp))
  obtain ⟨av, cv, rfl⟩ := h1.len
  refine ⟨?_⟩
  simp (disch := omega) only [go_sem, ↓cw_block, dsB_of]
  rw [← hA]
  refine loop_by (fun k ρ H3 => ∃ i : Nat, k = M.procs.length - i ∧ i ≤ M.procs.length ∧ Fr [] A H3 ∧ ρ.get 0 = .slice av l.length cv ∧ ρ.get 3 = hp H2.size ∧ ρ.get 5 = iv i ∧ ρ.ds = []) (k := M.procs.length) ?_ ?_
  · exact ⟨0, rfl, by omega, Fr.refl _ _, by (simp (disch := omega) only [go_sem, ↓cw_block, dsB_of])⟩
  · rintro k ρ H3 ⟨i, rfl, hi, f4, r0, r3, r5, rd⟩
    have b3 := f4.blk bA (by simp)
    have k2 := b3.cell 2
    have k3 := b3.cell 3
    have k4 := b3.cell 4
    simp only [List.getElem?_cons_succ, List.getElem?_cons_zero] at k2 k3 k4
    have m3 := mA.frame (Keeps.of_fr f4 (by simp))
    have hxi : (i : Int) + 1 = ((i + 1 : Nat) : Int) := by omega
    by_cases hik : i < M.procs.length
    · obtain ⟨p, hpi⟩ : ∃ p, M.procs[i]? = some p := ⟨_, List.getElem?_eq_getElem hik⟩
      have po := mo.pr p (List.mem_of_getElem? hpi)
      obtain ⟨b, o, c, a, e1, e2, ap, ldp, cp⟩ := m3.proc hpi
      rw [w3'] at e1
      simp only [Value.slice.injEq, true_and] at e1
      obtain ⟨rfl, rfl⟩ := e1
      subst e2
      obtain ⟨x1, c1, x2, c2, x3, c3, x4, c4, x5, c5, g1, g2, g3, g4, g5⟩ := ap.forms
      have hac : apC a = [sv a.p.name, iv a.p.copy, .slice x1 a.p.locals.length c1, iv a.p.rest.length, .slice x2 a.p.rest.length c2, .slice x3 a.p.edges.length c3, .slice x4 a.p.names.length c4, .slice x5 a.p.vars.length c5] := by
        unfold apC; rw [g1, g2, g3, g4, g5]
      rw [hac] at ldp
      have hr2 : ¬ ((a.p.rest.length : Int) < 2) := by have := po.two; omega
      have hr1 : (1 : Int) < a.p.rest.length := by have := po.two; omega
      have he0 : ¬ ((a.p.edges.length : Int) = 0) := by have := po.some; omega
      obtain ⟨rb, ro, rc, e3, -, q3⟩ := ap.re.at1 po.one
      rw [g2] at e3
      simp only [Value.slice.injEq, true_and] at e3
      obtain ⟨rfl, rfl⟩ := e3
      obtain ⟨B, hB⟩ : ∃ B, B = H3.push (.cells #[sv a.p.name, iv a.p.copy, .slice x1 a.p.locals.length c1, iv a.p.rest.length, .slice (some ⟨rb, ro, none⟩) a.p.rest.length c2, .slice x3 a.p.edges.length c3, .slice x4 a.p.names.length c4, .slice x5 a.p.vars.length c5] 37) := ⟨_, rfl⟩
      have f5 : Fr [] H3 B := by rw [hB]; exact Fr.push
      have bB : Blk B H3.size 37 [sv a.p.name, iv a.p.copy, .slice x1 a.p.locals.length c1, iv a.p.rest.length, .slice (some ⟨rb, ro, none⟩) a.p.rest.length c2, .slice x3 a.p.edges.length c3, .slice x4 a.p.names.length c4, .slice x5 a.p.vars.length c5] := by rw [hB]; exact Blk.new rfl
      have q3' := f5.cell' q3 (by simp)
      have s3 := bB.cell 3
      have s4 := bB.cell 4
      have s5 := bB.cell 5
      simp only [List.getElem?_cons_succ, List.getElem?_cons_zero] at s3 s4 s5
      simp (disch := omega) only [go_sem, ↓cw_block, dsB_of, r0, r3, r5, rd, k4, ldp]
      try rw [← hB]
      try (simp (disch := omega) only [go_sem, ↓cw_block, dsB_of, s3, s4, s5, hr2, hr1, he0, q3'])
      have mB := m3.frame (Keeps.of_fr f5 (by simp))
      have apB := ap.frame (Keeps.of_fr f5 (by simp))
      refine loop_by (fun k ρ H4 => ∃ j : Nat, k = a.p.edges.length - j ∧ j ≤ a.p.edges.length ∧ Fr [] B H4 ∧ ρ.get 0 = .slice av l.length cv ∧ ρ.get 3 = hp H2.size ∧ ρ.get 5 = iv i ∧ ρ.get 6 = hp H3.size ∧ ρ.get 7 = iv j ∧ ρ.ds = []) (k := a.p.edges.length) ?_ ?_
      · exact ⟨0, rfl, by omega, Fr.refl _ _, by (simp (disch := omega) only [go_sem, ↓cw_block, dsB_of, r0, r3, r5, rd])⟩
      · rintro k ρ H4 ⟨j, rfl, hj, f6, r0, r3, r5, r6, r7, rd⟩
        have b4 := (f5.trans f6).blk b3 (by simp)
        have k2 := b4.cell 2
        have k3 := b4.cell 3
        have k4 := b4.cell 4
        simp only [List.getElem?_cons_succ, List.getElem?_cons_zero] at k2 k3 k4
        have bP := f6.blk bB (by simp)
        have s0 := bP.cell 0
        have s1 := bP.cell 1
        have s3 := bP.cell 3
        have s5 := bP.cell 5
        simp only [List.getElem?_cons_succ, List.getElem?_cons_zero] at s0 s1 s3 s5
        have m4 := mB.frame (Keeps.of_fr f6 (by simp))
        have ap4 := apB.frame (Keeps.of_fr f6 (by simp))
        have hxj : (j : Int) + 1 = ((j + 1 : Nat) : Int) := by omega
        have hfew := po.few
        by_cases hjk : j < a.p.edges.length
        · obtain ⟨e, he⟩ : ∃ e, a.p.edges[j]? = some e := ⟨_, List.getElem?_eq_getElem hjk⟩
          have eo := po.ed e (List.mem_of_getElem? he)
          obtain ⟨eb, eoo, ec, e5, lde, ce⟩ := ap4.edge he
          rw [g3] at e5
          simp only [Value.slice.injEq, true_and] at e5
          obtain ⟨rfl, rfl⟩ := e5
          unfold edC at lde
          obtain ⟨C, hC⟩ : ∃ C, C = H4.push (.cells #[iv e.from', iv e.to', iv e.do', iv e.expr, iv e.var, iv e.chan, .bool e.keep, iv e.node] 39) := ⟨_, rfl⟩
          have f7 : Fr [] H4 C := by rw [hC]; exact Fr.push
          have bC : Blk C H4.size 39 [iv e.from', iv e.to', iv e.do', iv e.expr, iv e.var, iv e.chan, .bool e.keep, iv e.node] := by rw [hC]; exact Blk.new rfl
          have c0 := bC.cell 0
          have c1 := bC.cell 1
          have c2 := bC.cell 2
          have c3 := bC.cell 3
          have c4 := bC.cell 4
          have c5 := bC.cell 5
          have c6 := bC.cell 6
          have c7 := bC.cell 7
          simp only [List.getElem?_cons_succ, List.getElem?_cons_zero] at c0 c1 c2 c3 c4 c5 c6 c7
          have s3' := f7.cell' s3 (by simp)
          have k2' := f7.cell' k2 (by simp)
          have k3' := f7.cell' k3 (by simp)
          obtain ⟨⟨p1, p2, p3⟩, ⟨p4, p5⟩, p6, ⟨p7, p8⟩, ⟨p9, p10⟩, ⟨p11, p12⟩, q1, q2, q3, q4, -⟩ := eo
          have a1 : ¬ e.from' < 0 := by omega
          have a2 : ¬ (e.from' ≥ (a.p.rest.length : Int)) := by omega
          have a4 : ¬ e.to' < 0 := by omega
          have a5 : ¬ (e.to' ≥ (a.p.rest.length : Int)) := by omega
          have a6 : ¬ e.var < -1 := by omega
          have a7 : ¬ (e.var ≥ (M.vars.length : Int)) := by omega
          have a8 : ¬ e.chan < -1 := by omega
          have a9 : ¬ (e.chan ≥ (M.chans.length : Int)) := by omega
          have a10 : ¬ e.node < 0 := by omega
          have a11 : ¬ (e.node ≥ (l.length : Int)) := by omega
          have a12 : ¬ (e.expr ≥ (l.length : Int)) := by omega
          have hcase : (e.do' = 1 ∧ 0 ≤ e.expr ∧ 0 ≤ e.var ∧ ¬ 0 ≤ e.chan) ∨ (e.do' = 2 ∧ 0 ≤ e.expr ∧ ¬ 0 ≤ e.var ∧ 0 ≤ e.chan) ∨ (e.do' = 3 ∧ ¬ 0 ≤ e.expr ∧ 0 ≤ e.var ∧ 0 ≤ e.chan) ∨ (e.do' = 4 ∧ 0 ≤ e.expr ∧ ¬ 0 ≤ e.var ∧ ¬ 0 ≤ e.chan) ∨ (e.do' = 5 ∧ 0 ≤ e.expr ∧ ¬ 0 ≤ e.var ∧ ¬ 0 ≤ e.chan) ∨
            (¬ e.do' = 1 ∧ ¬ e.do' = 2 ∧ ¬ e.do' = 3 ∧ ¬ e.do' = 4 ∧ ¬ e.do' = 5 ∧ ¬ 0 ≤ e.expr ∧ ¬ 0 ≤ e.var ∧ ¬ 0 ≤ e.chan) := by omega
          simp (disch := omega) only [go_sem, ↓cw_block, dsB_of, r0, r3, r5, r6, r7, rd, s5, lde]
          try rw [← hC]
          dsimp only [List.append]
          simp (disch := omega) only [go_sem, ↓cw_block, dsB_of, r0, r3, r5, r6, r7, rd, c0, c1, c4, c5, c7, c3, s3', k2', k3', a1, a2, p3, a4, a5, a6, a7, a8, a9, a10, a11, a12]
          rcases hcase with ⟨h1, h2, h3, h4⟩ | ⟨h1, h2, h3, h4⟩ | ⟨h1, h2, h3, h4⟩ | ⟨h1, h2, h3, h4⟩ | ⟨h1, h2, h3, h4⟩ | ⟨h1, g2', g3', g4', g5', h2, h3, h4⟩
          · cases hk : e.keep with
            | true =>
              have h5 := q4 hk
              rw [hk] at c6
              simp (disch := omega) only [go_sem, ↓cw_block, dsB_of, r0, r3, r5, r6, r7, rd, c1, c2, c3, c4, c5, c6, h1, h2, h3, h4, h5]
              exact fin ⟨a.p.edges.length - (j + 1), by omega, j + 1, rfl, by omega, f6.trans f7, by (simp (disch := omega) only [go_sem, ↓cw_block, dsB_of, r0, r3, r5, r6, r7, rd, hxj])⟩
            | false =>
              rw [hk] at c6
              simp (disch := omega) only [go_sem, ↓cw_block, dsB_of, r0, r3, r5, r6, r7, rd, c1, c2, c3, c4, c5, c6, h1, h2, h3, h4]
              exact fin ⟨a.p.edges.length - (j + 1), by omega, j + 1, rfl, by omega, f6.trans f7, by (simp (disch := omega) only [go_sem, ↓cw_block, dsB_of, r0, r3, r5, r6, r7, rd, hxj])⟩
          · cases hk : e.keep with
            | true =>
              have h5 := q4 hk
              rw [hk] at c6
              simp (disch := omega) only [go_sem, ↓cw_block, dsB_of, r0, r3, r5, r6, r7, rd, c1, c2, c3, c4, c5, c6, h1, h2, h3, h4, h5]
              exact fin ⟨a.p.edges.length - (j + 1), by omega, j + 1, rfl, by omega, f6.trans f7, by (simp (disch := omega) only [go_sem, ↓cw_block, dsB_of, r0, r3, r5, r6, r7, rd, hxj])⟩
            | false =>
              rw [hk] at c6
              simp (disch := omega) only [go_sem, ↓cw_block, dsB_of, r0, r3, r5, r6, r7, rd, c1, c2, c3, c4, c5, c6, h1, h2, h3, h4]
              exact fin ⟨a.p.edges.length - (j + 1), by omega, j + 1, rfl, by omega, f6.trans f7, by (simp (disch := omega) only [go_sem, ↓cw_block, dsB_of, r0, r3, r5, r6, r7, rd, hxj])⟩
          · cases hk : e.keep with
            | true =>
              have h5 := q4 hk
              rw [hk] at c6
              simp (disch := omega) only [go_sem, ↓cw_block, dsB_of, r0, r3, r5, r6, r7, rd, c1, c2, c3, c4, c5, c6, h1, h2, h3, h4, h5]
              exact fin ⟨a.p.edges.length - (j + 1), by omega, j + 1, rfl, by omega, f6.trans f7, by (simp (disch := omega) only [go_sem, ↓cw_block, dsB_of, r0, r3, r5, r6, r7, rd, hxj])⟩
            | false =>
              rw [hk] at c6
              simp (disch := omega) only [go_sem, ↓cw_block, dsB_of, r0, r3, r5, r6, r7, rd, c1, c2, c3, c4, c5, c6, h1, h2, h3, h4]
              exact fin ⟨a.p.edges.length - (j + 1), by omega, j + 1, rfl, by omega, f6.trans f7, by (simp (disch := omega) only [go_sem, ↓cw_block, dsB_of, r0, r3, r5, r6, r7, rd, hxj])⟩
          · cases hk : e.keep with
            | true =>
              have h5 := q4 hk
              rw [hk] at c6
              simp (disch := omega) only [go_sem, ↓cw_block, dsB_of, r0, r3, r5, r6, r7, rd, c1, c2, c3, c4, c5, c6, h1, h2, h3, h4, h5]
              exact fin ⟨a.p.edges.length - (j + 1), by omega, j + 1, rfl, by omega, f6.trans f7, by (simp (disch := omega) only [go_sem, ↓cw_block, dsB_of, r0, r3, r5, r6, r7, rd, hxj])⟩
            | false =>
              rw [hk] at c6
              simp (disch := omega) only [go_sem, ↓cw_block, dsB_of, r0, r3, r5, r6, r7, rd, c1, c2, c3, c4, c5, c6, h1, h2, h3, h4]
              exact fin ⟨a.p.edges.length - (j + 1), by omega, j + 1, rfl, by omega, f6.trans f7, by (simp (disch := omega) only [go_sem, ↓cw_block, dsB_of, r0, r3, r5, r6, r7, rd, hxj])⟩
          · cases hk : e.keep with
            | true =>
              have h5 := q4 hk
              rw [hk] at c6
              simp (disch := omega) only [go_sem, ↓cw_block, dsB_of, r0, r3, r5, r6, r7, rd, c1, c2, c3, c4, c5, c6, h1, h2, h3, h4, h5]
              exact fin ⟨a.p.edges.length - (j + 1), by omega, j + 1, rfl, by omega, f6.trans f7, by (simp (disch := omega) only [go_sem, ↓cw_block, dsB_of, r0, r3, r5, r6, r7, rd, hxj])⟩
            | false =>
              rw [hk] at c6
              simp (disch := omega) only [go_sem, ↓cw_block, dsB_of, r0, r3, r5, r6, r7, rd, c1, c2, c3, c4, c5, c6, h1, h2, h3, h4]
              exact fin ⟨a.p.edges.length - (j + 1), by omega, j + 1, rfl, by omega, f6.trans f7, by (simp (disch := omega) only [go_sem, ↓cw_block, dsB_of, r0, r3, r5, r6, r7, rd, hxj])⟩
          · cases hk : e.keep with
            | true =>
              have h5 := q4 hk
              rw [hk] at c6
              simp (disch := omega) only [go_sem, ↓cw_block, dsB_of, r0, r3, r5, r6, r7, rd, c1, c2, c3, c4, c5, c6, h1, g2', g3', g4', g5', h2, h3, h4, h5]
              exact fin ⟨a.p.edges.length - (j + 1), by omega, j + 1, rfl, by omega, f6.trans f7, by (simp (disch := omega) only [go_sem, ↓cw_block, dsB_of, r0, r3, r5, r6, r7, rd, hxj])⟩
            | false =>
              rw [hk] at c6
              simp (disch := omega) only [go_sem, ↓cw_block, dsB_of, r0, r3, r5, r6, r7, rd, c1, c2, c3, c4, c5, c6, h1, g2', g3', g4', g5', h2, h3, h4]
              exact fin ⟨a.p.edges.length - (j + 1), by omega, j + 1, rfl, by omega, f6.trans f7, by (simp (disch := omega) only [go_sem, ↓cw_block, dsB_of, r0, r3, r5, r6, r7, rd, hxj])⟩
        obtain rfl : j = a.p.edges.length := by omega
        have hall : Fr [] A H4 := (f4.trans f5).trans f6
        by_cases hi0 : i = 0
        · subst hi0
          simp (disch := omega) only [go_sem, ↓cw_block, dsB_of, r0, r3, r5, r6, r7, rd, s5]
          refine draw0 (lk [(0, true), (1, true), (2, true), (3, true), (4, true), (5, true), (6, true), (7, true), (8, true), (9, true), (10, true), (11, true), (12, true), (13, true), (14, true), (15, true), (16, true), (17, true), (18, true), (19, true), (20, true), (21, true), (22, true), (23, true), (24, true), (25, true), (26, true), (27, true), (28, true), (29, true), (30, true), (31, true), (32, true), (33, true), (34, true), (35, true), (36, true), (37, true), (38, true), (39, true), (40, true), (41, true), (42, true), (43, true), (44, true), (45, true), (46, true), (47, true), (48, true), (49, true), (50, true), (51, true), (52, true), (53, true), (54, true), (55, true), (56, true), (57, true)] .fin) T.mixed ?_
          simp (disch := omega) only [go_sem, ↓cw_block, dsB_of, r0, r3, r5, r6, r7, rd]
          exact fin ⟨M.procs.length - (0 + 1), by omega, 0 + 1, rfl, by omega, hall, by (simp (disch := omega) only [go_sem, ↓cw_block, dsB_of, r0, r3, r5, r6, r7, rd, hxi]) <;> rfl⟩
        have hi1 : (0 : Int) < i := by omega
        by_cases hc0 : (0 : Int) < a.p.copy
        · obtain ⟨q, hq⟩ : ∃ q, M.procs[i - 1]? = some q := ⟨_, List.getElem?_eq_getElem (by omega)⟩
          have pp := mo.pair (i - 1) q a.p hq (by rw [show i - 1 + 1 = i by omega]; exact hpi) (by omega)
          obtain ⟨b', o', c', a', e1, e2, apq, -, cq⟩ := m4.proc hq
          rw [w3'] at e1
          simp only [Value.slice.injEq, Option.some.injEq, Addr.mk.injEq, and_true, true_and] at e1
          obtain ⟨⟨rfl, rfl⟩, rfl⟩ := e1
          subst e2
          obtain ⟨y1, z1, y2, z2, y3, z3, y4, z4, y5, z5, i1, i2, i3, i4, i5⟩ := apq.forms
          have u0 := cq 0 _ rfl
          have u1 := cq 1 _ rfl
          have u3 := cq 3 _ rfl
          have u5 := cq 5 _ rfl
          simp only [Nat.add_zero] at u0
          rw [i3] at u5
          have n1 := pp.name
          have n2 := pp.copy
          have n3 := pp.rest
          have n4 : a'.p.edges.length = a.p.edges.length := by
            obtain ⟨ps, v1, v2, -⟩ := pp.ed
            rw [v1, v2]; simp
          have hnt : (decide ¬True) = false := by simp
          have hcp := po.cp
          have hwc : IntKind.i64.wrap (a.p.copy - 1) = a.p.copy - 1 := IntWalk.i64_in _ (by omega)
          have hii : (i : Int) - 1 = ((i - 1 : Nat) : Int) := by omega
          rw [n1] at u0
          rw [n2] at u1
          rw [n3] at u3
          rw [n4] at u5
          simp (disch := omega) only [go_sem, ↓cw_block, dsB_of, r0, r3, r5, r6, r7, rd, s5]
          refine draw0 (lk [(0, true), (1, true), (2, true), (3, true), (4, true), (5, true), (6, true), (7, true), (8, true), (9, true), (10, true), (11, true), (12, true), (13, true), (14, true), (15, true), (16, true), (17, true), (18, true), (19, true), (20, true), (21, true), (22, true), (23, true), (24, true), (25, true), (26, true), (27, true), (28, true), (29, true), (30, true), (31, true), (32, true), (33, true), (34, true), (35, true), (36, true), (37, true), (38, true), (39, true), (40, true), (41, true), (42, true), (43, true), (44, true), (45, true), (46, true), (47, true), (48, true), (49, true), (50, true), (51, true), (52, true), (53, true), (54, true), (55, true), (56, true), (57, true)] .fin) T.mixed ?_
          simp (disch := omega) only [go_sem, ↓cw_block, dsB_of, r0, r3, r5, r6, r7, rd, hi1, hc0, s0, s1, s3, s5, k4, hii, u0, u1, u3, u5, hwc, hnt]
          exact fin ⟨M.procs.length - (i + 1), by omega, i + 1, rfl, by omega, hall, by (simp (disch := omega) only [go_sem, ↓cw_block, dsB_of, r0, r3, r5, r6, r7, rd, hxi])⟩
        · simp (disch := omega) only [go_sem, ↓cw_block, dsB_of, r0, r3, r5, r6, r7, rd, s5]
          refine draw0 (lk [(0, true), (1, true), (2, true), (3, true), (4, true), (5, true), (6, true), (7, true), (8, true), (9, true), (10, true), (11, true), (12, true), (13, true), (14, true), (15, true), (16, true), (17, true), (18, true), (19, true), (20, true), (21, true), (22, true), (23, true), (24, true), (25, true), (26, true), (27, true), (28, true), (29, true), (30, true), (31, true), (32, true), (33, true), (34, true), (35, true), (36, true), (37, true), (38, true), (39, true), (40, true), (41, true), (42, true), (43, true), (44, true), (45, true), (46, true), (47, true), (48, true), (49, true), (50, true), (51, true), (52, true), (53, true), (54, true), (55, true), (56, true), (57, true)] .fin) T.mixed ?_
          try (simp (disch := omega) only [go_sem, ↓cw_block, dsB_of, r0, r3, r5, r6, r7, rd, hi1, hc0, s1])
          exact fin ⟨M.procs.length - (i + 1), by omega, i + 1, rfl, by omega, hall, by (simp (disch := omega) only [go_sem, ↓cw_block, dsB_of, r0, r3, r5, r6, r7, rd, hxi])⟩
    obtain rfl : i = M.procs.length := by omega
    simp (disch := omega) only [go_sem, ↓cw_block, dsB_of, r0, r3, r5, rd, k4]
    exact fin ⟨rfl, ((f1.trans f2).trans f3).trans f4⟩
end
end Go.Proofs.Ytceipfakbklcbaa


/- Proved: for every input the law AutoPlaces returns true, and its arguments read as they did. No condition. -/
namespace Go.Proofs.Ytceipfakbklcbaa.autoPlaces
open Go.ChangeShapes Go.WideShapes Go.ChangeAt Go.RowKit Go.HL
set_option linter.unusedVariables false

theorem own : ownKnob Try.prog.godebug = none := by kernel_rfl
theorem laidOut : laidOutB Try.prog = true := by kernel_rfl

set_option maxRecDepth 100000 in
theorem lifted (os : Os) (started : os.Started) (H : Type) (enc : TypeId × Value → H) :
    ReturnsInHanded {} Try.checked os 3 .any (Rows.autoPlacesSpec.pre6 enc Try.prog Try.f3 Rows.autoPlacesRow.domain false) (Rows.autoPlacesSpec.post enc Try.prog Try.f3 false true false false) := by
  refine returnsInHanded_of_change (C := Try.checked) own started (by kernel_rfl) Try.func3
    (ChangeSpec.witness6 (enc := enc) (C := Try.checked) false ⟨#[], #[.slice none 0 0], []⟩ 8 (by kernel_rfl) (by kernel_rfl) (by kernel_rfl) (by kernel_rfl)) ?_
  intro W base args ds gs before hval0 hW _ _
  have hval : ∀ (j : Nat) t v, Try.f3.params[j]? = some t → args[j]? = some v → Value.okWide Try.prog W .any base t v := hval0
  have hW' := hW
  obtain ⟨p, q, hA0, hV, rfl, hfz, hnd⟩ := hW
  have hA : DataW.TrodAll enc Try.prog W 0 (fun _ => true) true Try.f3.params.toList args.toList ds p := hA0
  rw [Try.params3] at hA hval
  obtain ⟨v0, d0, rfl, rfl, t0⟩ := trodAll_one hA
  obtain ⟨rfl, rfl⟩ := trodVars_none hV
  obtain ⟨l0, h0, z0⟩ := arg_nodes (hval 0 22 v0 rfl rfl) t0
  have hcall := hcalls_of_callF Try.func3 rfl (by decide) (autoPlaces_spec h0 z0)
  refine (calls_of_hcalls hcall (R := fun W' => Below W.heap.size W W') (fun W' hb => hb)).mono ?_
  rintro e W' ⟨v, rfl, rfl, hb⟩
  exact ⟨_, rfl, law_post laidOut (by rw [Try.params3]; intro t ht; simp at ht; subst ht; exact ⟨by kernel_rfl, of_decide_eq_true (by kernel_rfl)⟩) (tb := 4) (by kernel_rfl) Try.underlying4 rfl rfl rfl rfl hW' hb⟩

theorem proved : Rows.AutoPlacesSaid :=
  OpenClaim.holds_of_wide 3 Try.f3 rfl rfl rfl rfl rfl rfl rfl ⟨rfl, rfl, rfl, rfl, rfl⟩ rfl rfl rfl rfl rfl (by kernel_rfl) Try.func3 (by kernel_rfl)
    (of_decide_eq_true (by kernel_rfl)) (by unfold Func.isWrapper; first | (rw [if_pos (by decide +kernel)]; kernel_rfl) | (rw [if_neg (by decide +kernel)]; exact ⟨rfl, rfl⟩))
    (fun os started H enc _ => lifted os started H enc)
#print axioms proved
end Go.Proofs.Ytceipfakbklcbaa.autoPlaces
