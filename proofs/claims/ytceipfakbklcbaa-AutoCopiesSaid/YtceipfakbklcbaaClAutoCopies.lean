/- Proved: for every input the law AutoCopies returns true, and its arguments read as they did. No condition. -/
import Derived.Test.YtceipfakbklcbaaMXE
import Derived.Test.YtceipfakbklcbaaMXF
import Derived.Test.YtceipfakbklcbaaMX9
import Derived.Test.YtceipfakbklcbaaMX3

/- The law AutoCopies, over heaps. -/
namespace Go.HL
theorem hld_cells {H : Heap} {L : List Addr} {a : Addr} : ∀ (n i : Nat) (vs : List Value), cellsH (cellH H) a i n = some vs → (∀ j, i ≤ j → j < i + n → a.add j ∈ L) → cellsH (lookA (hldL H L)) a i n = some vs
  | 0, i, vs, h, _ => h
  | n + 1, i, vs, h, hm => by
    simp only [cellsH] at h ⊢
    cases hc : cellH H (a.add i) with
    | none => simp [hc] at h
    | some v =>
      cases hl : cellsH (cellH H) a (i + 1) n with
      | none => simp [hc, hl] at h
      | some l' =>
        rw [hld_at hc (hm i (by omega) (by omega)), hld_cells n (i + 1) l' hl (fun j h1 h2 => hm j (by omega) (by omega))]
        simpa [hc, hl] using h
/-- The cells of a row. -/
def rowL (b o : Nat) : Nat → List Addr
  | 0 => []
  | n + 1 => rowL b o n ++ [⟨b, o + n, none⟩]
theorem mem_rowL {b o j : Nat} : ∀ {n : Nat}, j < n → (⟨b, o, none⟩ : Addr).add j ∈ rowL b o n
  | 0, h => by omega
  | n + 1, h => by
    rw [rowL, List.mem_append]
    by_cases e : j = n
    · subst e
      refine .inr ?_
      unfold Addr.add
      split
      · rename_i h0; simp [h0]
      · simp
    · exact .inl (mem_rowL (by omega))
section
variable {P : Program} {H : Heap} {ty : TypeId} {ps qs z : List Value}
/-- Two new blocks, and both written, in either order. -/
theorem two_new (hs : sizeT P ty = some z.length) (hp : z.length = ps.length) (hq : z.length = qs.length) (h1 : ∀ v ∈ ps, oneC v = true) (h2 : ∀ v ∈ qs, oneC v = true) :
    ∃ X2 X3 Y3, storeA P ((H.push (.cells z.toArray ty)).push (.cells z.toArray ty)) ty ⟨H.size, 0, none⟩ (.agg ps.toArray) = some X2 ∧ storeA P X2 ty ⟨H.size + 1, 0, none⟩ (.agg qs.toArray) = some X3 ∧
      storeA P ((H.push (.cells z.toArray ty)).push (.cells ps.toArray ty)) ty ⟨H.size, 0, none⟩ (.agg qs.toArray) = some Y3 ∧
      Fr [] H ((H.push (.cells z.toArray ty)).push (.cells z.toArray ty)) ∧ Fr [] H X2 ∧ Fr [] H X3 ∧ Fr [] H ((H.push (.cells z.toArray ty)).push (.cells ps.toArray ty)) ∧ Fr [] H Y3 ∧ Blk X3 H.size ty ps ∧ Blk X3 (H.size + 1) ty qs ∧ Blk Y3 (H.size + 1) ty ps ∧ Blk Y3 H.size ty qs := by
  obtain ⟨X1, hX1⟩ : ∃ X, X = (H.push (.cells z.toArray ty)).push (.cells z.toArray ty) := ⟨_, rfl⟩
  have f1 : Fr [] H X1 := by rw [hX1]; exact Fr.push.trans Fr.push
  have b0 : Blk X1 H.size ty z := by rw [hX1]; exact Blk.push (Blk.new rfl) _
  have b1 : Blk X1 (H.size + 1) ty z := by
    rw [hX1]
    have := Blk.new (H := H.push (.cells z.toArray ty)) (t := ty) (vs := z) rfl
    rwa [Array.size_push] at this
  rw [← hX1]
  obtain ⟨X2, e2, c2, g2⟩ := store_blk (P := P) (ty := ty) (new := ps) b0 hp (by rw [hs, hp]) h1
  have c2' := g2.blk b1 (by simp)
  obtain ⟨X3, e3, c3, g3⟩ := store_blk (P := P) (ty := ty) (new := qs) c2' hq (by rw [hs, hq]) h2
  have c3' := g3.blk c2 (by simp)
  have k2 : Fr [] H X2 := ⟨by have := f1.size; have := g2.size; omega, fun y h1 _ => by rw [g2.same y (by have := f1.size; omega) (by simp; omega), f1.same y h1 (by simp)]⟩
  have k3 : Fr [] H X3 := ⟨by have := k2.size; have := g3.size; omega, fun y h1 _ => by rw [g3.same y (by have := k2.size; omega) (by simp; omega), k2.same y h1 (by simp)]⟩
  obtain ⟨Y2, hY2⟩ : ∃ X, X = (H.push (.cells z.toArray ty)).push (.cells ps.toArray ty) := ⟨_, rfl⟩
  have k4 : Fr [] H Y2 := by rw [hY2]; exact Fr.push.trans Fr.push
  have d0 : Blk Y2 H.size ty z := by rw [hY2]; exact Blk.push (Blk.new rfl) _
  have d1 : Blk Y2 (H.size + 1) ty ps := by
    rw [hY2]
    have := Blk.new (H := H.push (.cells z.toArray ty)) (t := ty) (vs := ps) rfl
    rwa [Array.size_push] at this
  rw [← hY2]
  obtain ⟨Y3, e5, c5, g5⟩ := store_blk (P := P) (ty := ty) (new := qs) d0 hq (by rw [hs, hq]) h2
  have c5' := g5.blk d1 (by simp)
  have k5 : Fr [] H Y3 := ⟨by have := k4.size; have := g5.size; omega, fun y h1 _ => by rw [g5.same y (by have := k4.size; omega) (by simp; omega), k4.same y h1 (by simp)]⟩
  exact ⟨X2, X3, Y3, e2, e3, e5, f1, k2, k3, k4, k5, c3', c3, c5', c5⟩
end
end Go.HL
namespace Go.Proofs.Ytceipfakbklcbaa
open Go.HL
set_option maxRecDepth 10000
set_option linter.unusedSimpArgs false
set_option linter.unusedVariables false

section
variable {H : Heap} {S : Nat → Prop} {v : Value} {l : List Nd}
set_option maxHeartbeats 8000000 in
theorem autoCopies_spec (h : NL H S v l) (hz : Sz l) : CallF Try.prog 5 [v] H (fun r H' => r = .bool true ∧ Fr [] H H') NoP := by
  refine callF_of Try.func5 rfl Try.ntmps5 Try.results5 (by decide) rfl ?_
  simp (disch := omega) only [go_sem, ↓cw_block, dsB_of]
  refine call_to w13awake_spec ?_
  intro r1 H1 hv
  refine Hush.out ?_
  obtain ⟨rfl, f1⟩ := hv
  have h1 := h.grow f1
  refine ⟨?_⟩
  simp (disch := omega) only [go_sem, ↓cw_block, dsB_of]
  refine call_to (r9Small_spec h1 hz) ?_
  rintro _ _ ⟨rfl, rfl⟩
  cases hs : smallM l
  · simp (disch := omega) only [go_sem, ↓cw_block, dsB_of]
    refine call_to w13awake_spec ?_
    intro r2 H2 hv
    refine Hush.out ?_
    obtain ⟨rfl, f2⟩ := hv
    refine ⟨?_⟩
    simp (disch := omega) only [go_sem, ↓cw_block, dsB_of]
    exact fin ⟨rfl, f1.trans f2⟩
  have hlen := small_len hs
  by_cases h0 : typM l = ⟨0, 0⟩
  rotate_left
  · simp (disch := omega) only [go_sem, ↓cw_block, dsB_of]
    refine call_to (auMake_no h1 hz h0) ?_
    intro r2 H2 hv
    refine Hush.out ?_
    obtain ⟨f2, rfl⟩ := hv
    have hmc : moC ⟨nilS, nilS, nilS, nilS, nilS⟩ mo0 = [nilS, iv 0, nilS, nilS, nilS, nilS, .bool false] := rfl
    rw [hmc]
    obtain ⟨A, hA⟩ : ∃ A, A = H2.push (.cells #[nilS, iv 0, nilS, nilS, nilS, nilS, .bool false] 30) := ⟨_, rfl⟩
    have f3 : Fr [] H2 A := by rw [hA]; exact Fr.push
    have bA : Blk A H2.size 30 [nilS, iv 0, nilS, nilS, nilS, nilS, .bool false] := by rw [hA]; exact Blk.new rfl
    have k4 := bA.cell 4
    simp only [List.getElem?_cons_succ, List.getElem?_cons_zero] at k4
    refine ⟨?_⟩
    simp (disch := omega) only [go_sem, ↓cw_block, dsB_of]
    rw [← hA]
    refine loop_by (fun k ρ H3 => H3 = A ∧ ρ.get 3 = hp H2.size ∧ ρ.get 5 = iv 1 ∧ ρ.ds = []) (k := 0) ?_ ?_
    · exact ⟨rfl, by (simp (disch := omega) only [go_sem, ↓cw_block, dsB_of])⟩
    · rintro k ρ _ ⟨rfl, r3, r5, rd⟩
      simp (disch := omega) only [go_sem, ↓cw_block, dsB_of, r3, r5, rd, k4]
      exact fin ⟨rfl, (f1.trans f2).trans f3⟩
  simp (disch := omega) only [go_sem, ↓cw_block, dsB_of]
  refine call_to (auMake_ok h1 hz h0) ?_
  intro r2 H2 hv
  refine Hush.out ?_
  obtain ⟨f2, w, aps, rfl, mr⟩ := hv
  obtain ⟨mo, hMl, hMv⟩ := modOk h0
  obtain ⟨M, hM⟩ : ∃ M, M = modM l := ⟨_, rfl⟩
  rw [← hM] at mr mo hMl hMv ⊢
  obtain ⟨d0, t0, d1, t1, d2, t2, d3, t3, d4, t4, w0', w1', w2', w3', w4'⟩ := mr.cells
  have hmc : moC w M = [.slice d0 l.length t0, iv M.globals, .slice d1 M.chans.length t1, .slice d2 M.vars.length t2, .slice d3 M.procs.length t3, .slice d4 M.safe.length t4, .bool M.dead] := by
    unfold moC; rw [w0', w1', w2', w3', w4']
  rw [hmc]
  obtain ⟨A, hA⟩ : ∃ A, A = H2.push (.cells #[.slice d0 l.length t0, iv M.globals, .slice d1 M.chans.length t1, .slice d2 M.vars.length t2, .slice d3 M.procs.length t3, .slice d4 M.safe.length t4, .bool M.dead] 30) := ⟨_, rfl⟩
  have f3 : Fr [] H2 A := by rw [hA]; exact Fr.push
  have bA : Blk A H2.size 30 (moC w M) := by rw [hA, hmc]; exact Blk.new rfl
  rw [hmc] at bA
  have mA := mr.frame (Keeps.of_fr f3 (by simp))
  obtain ⟨av, cv, rfl⟩ := h1.len
  refine ⟨?_⟩
  simp (disch := omega) only [go_sem, ↓cw_block, dsB_of]
  rw [← hA]
  refine loop_by (fun k ρ H3 => ∃ i : Nat, k = M.procs.length - i ∧ 1 ≤ i ∧ Fr [] A H3 ∧ ρ.get 3 = hp H2.size ∧ ρ.get 5 = iv i ∧ ρ.ds = [] ∧ i ≤ 4001) (k := M.procs.length - 1) ?_ ?_
  · exact ⟨1, rfl, by omega, Fr.refl _ _, by (simp (disch := omega) only [go_sem, ↓cw_block, dsB_of]) <;> simp⟩
  · rintro k ρ H3 ⟨i, rfl, hi, f4, r3, r5, rd, hi4⟩
    have b3 := f4.blk bA (by simp)
    have k4 := b3.cell 4
    simp only [List.getElem?_cons_succ, List.getElem?_cons_zero] at k4
    have m3 := mA.frame (Keeps.of_fr f4 (by simp))
    have hxi : (i : Int) + 1 = ((i + 1 : Nat) : Int) := by omega
    have hii : (i : Int) - 1 = ((i - 1 : Nat) : Int) := by omega
    by_cases hik : i < M.procs.length
    · obtain ⟨p, hpi⟩ : ∃ p, M.procs[i]? = some p := ⟨_, List.getElem?_eq_getElem hik⟩
      obtain ⟨q, hqi⟩ : ∃ q, M.procs[i - 1]? = some q := ⟨_, List.getElem?_eq_getElem (by omega)⟩
      have po := mo.pr p (List.mem_of_getElem? hpi)
      obtain ⟨b, o, c, a, e1, e2, ap, ldp, -⟩ := m3.proc hpi
      rw [w3'] at e1
      simp only [Value.slice.injEq, true_and] at e1
      obtain ⟨rfl, rfl⟩ := e1
      subst e2
      obtain ⟨b', o', c', a', e1, e2, aq, ldq, -⟩ := m3.proc hqi
      rw [w3'] at e1
      simp only [Value.slice.injEq, Option.some.injEq, Addr.mk.injEq, and_true, true_and] at e1
      obtain ⟨⟨rfl, rfl⟩, rfl⟩ := e1
      subst e2
      obtain ⟨x1, c1, x2, c2, x3, c3, x4, c4, x5, c5, g1, g2, g3, g4, g5⟩ := ap.forms
      obtain ⟨y1, z1, y2, z2, y3, z3, y4, z4, y5, z5, i1, i2, i3, i4, i5⟩ := aq.forms
      have hac : apC a = [sv a.p.name, iv a.p.copy, .slice x1 a.p.locals.length c1, iv a.p.rest.length, .slice x2 a.p.rest.length c2, .slice x3 a.p.edges.length c3, .slice x4 a.p.names.length c4, .slice x5 a.p.vars.length c5] := by
        unfold apC; rw [g1, g2, g3, g4, g5]
      have hac' : apC a' = [sv a'.p.name, iv a'.p.copy, .slice y1 a'.p.locals.length z1, iv a'.p.rest.length, .slice y2 a'.p.rest.length z2, .slice y3 a'.p.edges.length z3, .slice y4 a'.p.names.length z4, .slice y5 a'.p.vars.length z5] := by
        unfold apC; rw [i1, i2, i3, i4, i5]
      rw [hac] at ldp
      rw [hac'] at ldq
      obtain ⟨hl, hhl⟩ : ∃ hl, hl = hldL H3 (⟨H2.size, 4, none⟩ :: (rowL b (o + i * 8) 8 ++ rowL b (o + (i - 1) * 8) 8)) := ⟨_, rfl⟩
      have hok : heldOK hl H3 := by rw [hhl]; exact hld_ok
      have l4 : lookA hl ⟨H2.size, 4, none⟩ = some (.slice (some ⟨b, o, none⟩) M.procs.length t3) := by rw [hhl]; exact hld_at k4 (by simp)
      have lp := hld_cells (L := ⟨H2.size, 4, none⟩ :: (rowL b (o + i * 8) 8 ++ rowL b (o + (i - 1) * 8) 8)) 8 0 _ ldp (fun j _ hj => List.mem_cons_of_mem _ (List.mem_append_left _ (mem_rowL (by omega))))
      have lq := hld_cells (L := ⟨H2.size, 4, none⟩ :: (rowL b (o + i * 8) 8 ++ rowL b (o + (i - 1) * 8) 8)) 8 0 _ ldq (fun j _ hj => List.mem_cons_of_mem _ (List.mem_append_right _ (mem_rowL (by omega))))
      rw [← hhl] at lp lq
      obtain ⟨X2, X3, Y3, s1, s2, s4, q1, q2, q3, q4, q5, n1, n2, n3, n4⟩ := two_new (P := Try.prog) (H := H3) (ty := 37) (z := [sv [], iv 0, nilS, iv 0, nilS, nilS, nilS, nilS]) (ps := apC a) (qs := apC a') T.size37 (by rw [hac]; rfl) (by rw [hac']; rfl) (by rw [hac]; exact one_all rfl) (by rw [hac']; exact one_all rfl)
      rw [hac] at s1 s4 q4 n1 n3
      rw [hac'] at s2 s4 n2 n4
      simp (disch := omega) only [go_sem, ↓cw_block, dsB_of, r3, r5, rd, k4]
      refine draw_cut (fun ρ X => ∃ p6 p7, ¬ p6 = p7 ∧ Fr [] H3 X ∧ Blk X p6 37 [sv a.p.name, iv a.p.copy, .slice x1 a.p.locals.length c1, iv a.p.rest.length, .slice x2 a.p.rest.length c2, .slice x3 a.p.edges.length c3, .slice x4 a.p.names.length c4, .slice x5 a.p.vars.length c5] ∧
        Blk X p7 37 [sv a'.p.name, iv a'.p.copy, .slice y1 a'.p.locals.length z1, iv a'.p.rest.length, .slice y2 a'.p.rest.length z2, .slice y3 a'.p.edges.length z3, .slice y4 a'.p.names.length z4, .slice y5 a'.p.vars.length z5] ∧
        (ρ.get 3 = hp H2.size ∧ ρ.get 5 = iv i ∧ ρ.get 6 = hp p6 ∧ ρ.get 7 = hp p7 ∧ ρ.ds = [])) ?_ ?_
      · refine draw1 (lk [(0, false), (1, false), (2, false), (3, false), (4, false), (5, false), (6, false), (7, false), (8, false), (9, false), (10, false)] (.act 11 (.act 12 (.act 13 (.actd 14 .fin) .non) .non) (.act 12 (.act 11 (.act 13 (.actd 14 .fin) .non) .non) .non))) T.mixed hl hok ?_
        simp (disch := omega) only [go_sem, ↓cw_block, dsB_of, r3, r5, rd, l4, lp, lq, hii]
        refine both_of ?_ ?_
        · simp (disch := omega) only [go_sem, ↓cw_block, dsB_of, id_eq]
          refine held_by (hld_fr hok (Fr.push (F := [])) (by simp)) ?_
          simp (disch := omega) only [go_sem, ↓cw_block, dsB_of, r3, r5, rd, l4, lp, lq, hii]
          refine held_by (hld_fr hok q1 (by simp)) ?_
          simp (disch := omega) only [go_sem, ↓cw_block, dsB_of, r3, r5, rd, l4, lp, lq, hii, s1]
          refine held_by (hld_fr hok q2 (by simp)) ?_
          simp (disch := omega) only [go_sem, ↓cw_block, dsB_of, r3, r5, rd, l4, lp, lq, hii, s2, Array.size_push]
          exact fin ⟨H3.size, H3.size + 1, by omega, q3, n1, n2, by (simp (disch := omega) only [go_sem, ↓cw_block, dsB_of, r3, r5, rd, Array.size_push])⟩
        · simp (disch := omega) only [go_sem, ↓cw_block, dsB_of, id_eq]
          refine held_by (hld_fr hok (Fr.push (F := [])) (by simp)) ?_
          simp (disch := omega) only [go_sem, ↓cw_block, dsB_of, r3, r5, rd, l4, lp, lq, hii]
          refine held_by (hld_fr hok q1 (by simp)) ?_
          try (simp (disch := omega) only [go_sem, ↓cw_block, dsB_of, r3, r5, rd, l4, lp, lq, hii])
          refine held_by (hld_fr hok q4 (by simp)) ?_
          simp (disch := omega) only [go_sem, ↓cw_block, dsB_of, r3, r5, rd, l4, lp, lq, hii, s4]
          exact fin ⟨H3.size + 1, H3.size, by omega, q5, n3, n4, by (simp (disch := omega) only [go_sem, ↓cw_block, dsB_of, r3, r5, rd, Array.size_push])⟩
      · have mrA := mA
        have hA3 := f4
        clear hok l4 lp lq hhl s1 s2 s4 q1 q2 q3 q4 q5 n1 n2 n3 n4 k4 b3 r3 r5 rd ldp ldq
        rintro ρ H5 ⟨p6, p7, hne, f5, b6, b7, r3, r5, r6, r7, rd⟩
        have k60 := b6.cell 0
        have k61 := b6.cell 1
        have k62 := b6.cell 2
        have k65 := b6.cell 5
        have k70 := b7.cell 0
        have k72 := b7.cell 2
        have k75 := b7.cell 5
        simp only [List.getElem?_cons_succ, List.getElem?_cons_zero] at k60 k61 k62 k65 k70 k72 k75
        by_cases hc0 : a.p.copy = 0
        · simp (disch := omega) only [go_sem, ↓cw_block, dsB_of, r3, r5, r6, r7, rd, k61, hc0]
          exact fin ⟨M.procs.length - (i + 1), by omega, i + 1, rfl, by omega, f4.trans f5, by (simp (disch := omega) only [go_sem, ↓cw_block, dsB_of, r3, r5, r6, r7, rd, hxi]) <;> (first | omega | simp)⟩
        have pp := mo.pair (i - 1) a'.p a.p hqi (by rw [show i - 1 + 1 = i by omega]; exact hpi) hc0
        have hlo := pp.loc
        have hfew := po.few
        obtain ⟨ps, hps1, hps2, hps3⟩ := pp.ed
        have hpl1 : a.p.edges.length = ps.length := by rw [hps1]; simp
        have hpl2 : a'.p.edges.length = ps.length := by rw [hps2]; simp
        have hnt : (decide ¬True) = false := by simp
        rw [pp.name] at k70
        rw [hlo] at k72
        rw [hpl2] at k75
        rw [hpl1] at k65
        have f45 := f4.trans f5
        have hgv := mo.gv
        simp (disch := omega) only [go_sem, ↓cw_block, dsB_of, r3, r5, r6, r7, rd, k61, hc0]
        try (simp (disch := omega) only [go_sem, ↓cw_block, dsB_of, r3, r5, r6, r7, rd, k60, k70, k62, k72, k65, k75, hnt])
        refine loop_by (fun k ρ H6 => ∃ j : Nat, k = ps.length - j ∧ j ≤ ps.length ∧ Fr [] H5 H6 ∧ ρ.get 3 = hp H2.size ∧ ρ.get 5 = iv i ∧ ρ.get 6 = hp p6 ∧ ρ.get 7 = hp p7 ∧ ρ.get 8 = iv j ∧ ρ.ds = []) (k := ps.length) ?_ ?_
        · exact ⟨0, rfl, by omega, Fr.refl _ _, by (simp (disch := omega) only [go_sem, ↓cw_block, dsB_of, r3, r5, r6, r7, rd])⟩
        · clear r3 r5 r6 r7 rd
          rintro k ρ H6 ⟨j, rfl, hj, f6, r3, r5, r6, r7, r8, rd⟩
          have f46 := f45.trans f6
          have bm6 := f46.blk bA (by simp)
          have km1 := bm6.cell 1
          have km3 := bm6.cell 3
          simp only [List.getElem?_cons_succ, List.getElem?_cons_zero] at km1 km3
          have k62' := f6.cell' k62 (by simp)
          have k72' := f6.cell' k72 (by simp)
          have k65' := f6.cell' k65 (by simp)
          have k75' := f6.cell' k75 (by simp)
          have ap6 := ap.frame (Keeps.of_fr (f5.trans f6) (by simp))
          have aq6 := aq.frame (Keeps.of_fr (f5.trans f6) (by simp))
          have hxj : (j : Int) + 1 = ((j + 1 : Nat) : Int) := by omega
          by_cases hjk : j < ps.length
          · obtain ⟨x, hx⟩ : ∃ x, ps[j]? = some x := ⟨_, List.getElem?_eq_getElem hjk⟩
            have he1 : a.p.edges[j]? = some x.1 := by rw [hps1, List.getElem?_map, hx]; rfl
            have he2 : a'.p.edges[j]? = some x.2 := by rw [hps2, List.getElem?_map, hx]; rfl
            have eo := po.ed x.1 (List.mem_of_getElem? he1)
            have hxx := hps3 x (List.mem_of_getElem? hx)
            obtain ⟨e, e'⟩ := x
            simp only at he1 he2 eo hxx
            obtain ⟨eb, eoo, ec, e5, lde, -⟩ := ap6.edge he1
            rw [g3, hpl1] at e5
            simp only [Value.slice.injEq, true_and] at e5
            obtain ⟨rfl, rfl⟩ := e5
            obtain ⟨eb', eoo', ec', e5', lde', -⟩ := aq6.edge he2
            rw [i3, hpl2] at e5'
            simp only [Value.slice.injEq, true_and] at e5'
            obtain ⟨rfl, rfl⟩ := e5'
            obtain ⟨hl, hhl⟩ : ∃ hl, hl = hldL H6 (⟨p6, 5, none⟩ :: ⟨p7, 5, none⟩ :: (rowL eb (eoo + j * 8) 8 ++ rowL eb' (eoo' + j * 8) 8)) := ⟨_, rfl⟩
            have hok : heldOK hl H6 := by rw [hhl]; exact hld_ok
            have l6 : lookA hl ⟨p6, 5, none⟩ = some (.slice (some ⟨eb, eoo, none⟩) ps.length c3) := by rw [hhl]; exact hld_at k65' (by simp)
            have l7 : lookA hl ⟨p7, 5, none⟩ = some (.slice (some ⟨eb', eoo', none⟩) ps.length z3) := by rw [hhl]; exact hld_at k75' (by simp)
            have lp := hld_cells (L := ⟨p6, 5, none⟩ :: ⟨p7, 5, none⟩ :: (rowL eb (eoo + j * 8) 8 ++ rowL eb' (eoo' + j * 8) 8)) 8 0 _ lde (fun j _ hj => List.mem_cons_of_mem _ (List.mem_cons_of_mem _ (List.mem_append_left _ (mem_rowL (by omega)))))
            have lq := hld_cells (L := ⟨p6, 5, none⟩ :: ⟨p7, 5, none⟩ :: (rowL eb (eoo + j * 8) 8 ++ rowL eb' (eoo' + j * 8) 8)) 8 0 _ lde' (fun j _ hj => List.mem_cons_of_mem _ (List.mem_cons_of_mem _ (List.mem_append_right _ (mem_rowL (by omega)))))
            rw [← hhl] at lp lq
            obtain ⟨X2, X3, Y3, s1, s2, s4, q1, q2, q3, q4, q5, n1, n2, n3, n4⟩ := two_new (P := Try.prog) (H := H6) (ty := 39) (z := [iv 0, iv 0, iv 0, iv 0, iv 0, iv 0, .bool false, iv 0]) (ps := edC e) (qs := edC e') T.size39 rfl rfl (one_all rfl) (one_all rfl)
            unfold edC at lp lq s1 s2 s4 q4 n1 n2 n3 n4
            simp (disch := omega) only [go_sem, ↓cw_block, dsB_of, r3, r5, r6, r7, r8, rd, k65']
            refine draw_cut (fun ρ X => ∃ p9 p10, ¬ p9 = p10 ∧ Fr [] H6 X ∧ ¬ p9 < H6.size ∧ ¬ p10 < H6.size ∧ Blk X p9 39 [iv e.from', iv e.to', iv e.do', iv e.expr, iv e.var, iv e.chan, .bool e.keep, iv e.node] ∧
              Blk X p10 39 [iv e'.from', iv e'.to', iv e'.do', iv e'.expr, iv e'.var, iv e'.chan, .bool e'.keep, iv e'.node] ∧
              (ρ.get 3 = hp H2.size ∧ ρ.get 5 = iv i ∧ ρ.get 6 = hp p6 ∧ ρ.get 7 = hp p7 ∧ ρ.get 8 = iv j ∧ ρ.get 9 = hp p9 ∧ ρ.get 10 = hp p10 ∧ ρ.ds = [])) ?_ ?_
            · refine draw1 (lk [(0, false), (1, false), (2, false), (3, false), (4, false), (5, false), (6, false), (7, false), (8, false), (9, false)] (.act 10 (.act 11 (.act 12 (.actd 13 .fin) .non) .non) (.act 11 (.act 10 (.act 12 (.actd 13 .fin) .non) .non) .non))) T.mixed hl hok ?_
              simp (disch := omega) only [go_sem, ↓cw_block, dsB_of, r3, r5, r6, r7, r8, rd, l6, l7, lp, lq]
              refine both_of ?_ ?_
              · simp (disch := omega) only [go_sem, ↓cw_block, dsB_of, id_eq]
                refine held_by (hld_fr hok (Fr.push (F := [])) (by simp)) ?_
                simp (disch := omega) only [go_sem, ↓cw_block, dsB_of, r3, r5, r6, r7, r8, rd, l6, l7, lp, lq]
                refine held_by (hld_fr hok q1 (by simp)) ?_
                simp (disch := omega) only [go_sem, ↓cw_block, dsB_of, r3, r5, r6, r7, r8, rd, l6, l7, lp, lq, s1]
                refine held_by (hld_fr hok q2 (by simp)) ?_
                simp (disch := omega) only [go_sem, ↓cw_block, dsB_of, r3, r5, r6, r7, r8, rd, l6, l7, lp, lq, s2, Array.size_push]
                exact fin ⟨H6.size, H6.size + 1, by omega, q3, by omega, by omega, n1, n2, by (simp (disch := omega) only [go_sem, ↓cw_block, dsB_of, r3, r5, r6, r7, r8, rd, Array.size_push])⟩
              · simp (disch := omega) only [go_sem, ↓cw_block, dsB_of, id_eq]
                refine held_by (hld_fr hok (Fr.push (F := [])) (by simp)) ?_
                simp (disch := omega) only [go_sem, ↓cw_block, dsB_of, r3, r5, r6, r7, r8, rd, l6, l7, lp, lq]
                refine held_by (hld_fr hok q1 (by simp)) ?_
                try (simp (disch := omega) only [go_sem, ↓cw_block, dsB_of, r3, r5, r6, r7, r8, rd, l6, l7, lp, lq])
                refine held_by (hld_fr hok q4 (by simp)) ?_
                simp (disch := omega) only [go_sem, ↓cw_block, dsB_of, r3, r5, r6, r7, r8, rd, l6, l7, lp, lq, s4]
                exact fin ⟨H6.size + 1, H6.size, by omega, q5, by omega, by omega, n3, n4, by (simp (disch := omega) only [go_sem, ↓cw_block, dsB_of, r3, r5, r6, r7, r8, rd, Array.size_push])⟩
            · clear hok l6 l7 lp lq hhl s1 s2 s4 q1 q2 q3 q4 q5 n1 n2 n3 n4 r3 r5 r6 r7 r8 rd
              rintro ρ H7 ⟨p9, p10, hne2, f7, hg9, hg10, b9, b10, r3, r5, r6, r7, r8, r9, r10, rd⟩
              have km1' := f7.cell' km1 (by simp)
              have k62'' := f7.cell' k62' (by simp)
              have c94 := b9.cell 4
              have c104 := b10.cell 4
              have ld9 := b9.cells0
              have ld10 := b10.cells0
              simp only [List.getElem?_cons_succ, List.getElem?_cons_zero, List.length_cons, List.length_nil] at c94 c104 ld9 ld10
              have hva := eo.va
              by_cases hge : M.globals ≤ e.var
              · have hee := hxx.2 hge
                have hge' : e.var ≥ M.globals := hge
                have hv1 : e.var = e'.var + a.p.locals.length := by rw [hee]
                have hwr : IntKind.i64.wrap (e'.var + (a.p.locals.length : Int)) = e.var := by rw [← hv1]; exact IntWalk.i64_in _ (by omega)
                have w10 := b10.wr (i := 4) (by simp) (iv e.var)
                have b10' := b10.set 4 (iv e.var)
                obtain ⟨X8, hX8⟩ : ∃ X, X = setH H7 ⟨p10, 4, none⟩ (iv e.var) := ⟨_, rfl⟩
                rw [← hX8] at w10 b10'
                have q8 : Fr [p10] H7 X8 := by rw [hX8]; exact Fr.set (by simp)
                have b9' := q8.blk b9 (by simpa using hne2)
                have ld9' := b9'.cells0
                have ld10' := b10'.cells0
                simp only [List.length_cons, List.length_nil, List.set_cons_succ, List.set_cons_zero, List.length_set] at ld9' ld10'
                have x1' : e'.from' = e.from' := by rw [hee]
                have x2' : e'.to' = e.to' := by rw [hee]
                have x3' : e'.do' = e.do' := by rw [hee]
                have x4' : e'.expr = e.expr := by rw [hee]
                have x5' : e'.chan = e.chan := by rw [hee]
                have x6' : e'.keep = e.keep := by rw [hee]
                have x7' : e'.node = e.node := by rw [hee]
                rw [x1', x2', x3', x4', x5', x6', x7'] at ld10'
                have f8 : Fr [] H6 X8 := Fr.more f7 q8 (by simp; omega)
                simp (disch := omega) only [go_sem, ↓cw_block, dsB_of, r3, r5, r6, r7, r8, r9, r10, rd, c94, km1', hge', c104, k62'', hwr, w10]
                try (simp (disch := omega) only [go_sem, ↓cw_block, dsB_of, r3, r5, r6, r7, r8, r9, r10, rd, ld9', ld10', eq_self, and_true, decide_true, Bool.not_true])
                exact fin ⟨ps.length - (j + 1), by omega, j + 1, rfl, by omega, f6.trans f8, by (simp (disch := omega) only [go_sem, ↓cw_block, dsB_of, r3, r5, r6, r7, r8, rd, hxj])⟩
              · have hee := hxx.1 (by omega)
                have hge' : ¬ (e.var ≥ M.globals) := hge
                rw [hee] at ld10
                simp (disch := omega) only [go_sem, ↓cw_block, dsB_of, r3, r5, r6, r7, r8, r9, r10, rd, c94, km1', hge']
                try (simp (disch := omega) only [go_sem, ↓cw_block, dsB_of, r3, r5, r6, r7, r8, r9, r10, rd, ld9, ld10, eq_self, and_true, decide_true, Bool.not_true])
                exact fin ⟨ps.length - (j + 1), by omega, j + 1, rfl, by omega, f6.trans f7, by (simp (disch := omega) only [go_sem, ↓cw_block, dsB_of, r3, r5, r6, r7, r8, rd, hxj])⟩
          obtain rfl : j = ps.length := by omega
          simp (disch := omega) only [go_sem, ↓cw_block, dsB_of, r3, r5, r6, r7, r8, rd, k65']
          refine loop_by (fun k ρ H8 => ∃ h : Nat, k = a.p.locals.length - h ∧ h ≤ a.p.locals.length ∧ H6 = H8 ∧ ρ.get 3 = hp H2.size ∧ ρ.get 5 = iv i ∧ ρ.get 6 = hp p6 ∧ ρ.get 7 = hp p7 ∧ ρ.get 11 = iv h ∧ ρ.ds = []) (k := a.p.locals.length) ?_ ?_
          · exact ⟨0, rfl, by omega, rfl, by (simp (disch := omega) only [go_sem, ↓cw_block, dsB_of, r3, r5, r6, r7, rd])⟩
          · clear r3 r5 r6 r7 r8 rd
            rintro k ρ _ ⟨h, rfl, hh, rfl, r3, r5, r6, r7, r11, rd⟩
            have hxh : (h : Int) + 1 = ((h + 1 : Nat) : Int) := by omega
            by_cases hhk : h < a.p.locals.length
            · obtain ⟨y, hy1, hy2, hy3, hy4⟩ := pp.ls h hhk
              obtain ⟨lb, lo, lc, e7, -, lq7⟩ := aq6.lo.at1 hy1
              rw [i1, hlo] at e7
              simp only [Value.slice.injEq, true_and] at e7
              obtain ⟨rfl, rfl⟩ := e7
              obtain ⟨lb', lo', lc', e7, -, lp7⟩ := ap6.lo.at1 hy2
              rw [g1] at e7
              simp only [Value.slice.injEq, true_and] at e7
              obtain ⟨rfl, rfl⟩ := e7
              obtain ⟨vr, hvr⟩ : ∃ vr, M.vars[y + a.p.locals.length]? = some vr := ⟨_, List.getElem?_eq_getElem hy3⟩
              rw [hvr] at hy4
              have m6 := mA.frame (Keeps.of_fr f46 (by simp))
              obtain ⟨vb, vo, vc, e8, ldv1⟩ := m6.var hy4
              rw [w2'] at e8
              simp only [Value.slice.injEq, true_and] at e8
              obtain ⟨rfl, rfl⟩ := e8
              obtain ⟨vb', vo', vc', e8, ldv2⟩ := m6.var hvr
              rw [w2'] at e8
              simp only [Value.slice.injEq, Option.some.injEq, Addr.mk.injEq, and_true, true_and] at e8
              obtain ⟨⟨rfl, rfl⟩, rfl⟩ := e8
              unfold vrC at ldv1 ldv2
              have hyl : (y : Int) + a.p.locals.length = ((y + a.p.locals.length : Nat) : Int) := by omega
              have hy5 : ((y + a.p.locals.length : Nat) : Int) < M.vars.length := by omega
              have hy6 : (y : Int) < M.vars.length := by omega
              have hy7 : IntKind.i64.wrap ((y + a.p.locals.length : Nat) : Int) = ((y + a.p.locals.length : Nat) : Int) := IntWalk.i64_in _ (by omega)
              simp (disch := omega) only [go_sem, ↓cw_block, dsB_of, r3, r5, r6, r7, r11, rd, k62']
              refine draw0 (lk [(0, true), (1, true), (2, true), (3, true), (4, true), (5, true), (6, true), (7, true), (8, true), (9, true), (10, true), (11, true), (12, true), (13, true), (14, true), (15, true), (16, true), (17, true), (18, true), (19, true), (20, true), (21, true), (22, true), (23, true), (24, true), (25, true), (26, true), (27, true), (28, true), (29, true), (30, true), (31, true), (32, true), (33, true), (34, true), (35, true)] .fin) T.mixed ?_
              simp (disch := omega) only [go_sem, ↓cw_block, dsB_of, r3, r5, r6, r7, r11, rd, k62', k72', km3, lq7, lp7, hyl, hy5, hy6, hy7, ldv1, ldv2, hnt, eq_self, and_true, decide_true, Bool.not_true]
              exact fin ⟨a.p.locals.length - (h + 1), by omega, h + 1, rfl, by omega, rfl, by (simp (disch := omega) only [go_sem, ↓cw_block, dsB_of, r3, r5, r6, r7, r11, rd, hxh])⟩
            obtain rfl : h = a.p.locals.length := by omega
            simp (disch := omega) only [go_sem, ↓cw_block, dsB_of, r3, r5, r6, r7, r11, rd, k62']
            exact fin ⟨M.procs.length - (i + 1), by omega, i + 1, rfl, by omega, f46, by (simp (disch := omega) only [go_sem, ↓cw_block, dsB_of, r3, r5, r6, r7, r11, rd, hxi]) <;> (first | omega | simp)⟩
    simp (disch := omega) only [go_sem, ↓cw_block, dsB_of, r3, r5, rd, k4]
    exact fin ⟨rfl, ((f1.trans f2).trans f3).trans f4⟩
end
end Go.Proofs.Ytceipfakbklcbaa


/- Proved: for every input the law AutoCopies returns true, and its arguments read as they did. No condition. -/
namespace Go.Proofs.Ytceipfakbklcbaa.autoCopies
open Go.ChangeShapes Go.WideShapes Go.ChangeAt Go.RowKit Go.HL
set_option linter.unusedVariables false

theorem own : ownKnob Try.prog.godebug = none := by kernel_rfl
theorem laidOut : laidOutB Try.prog = true := by kernel_rfl

set_option maxRecDepth 100000 in
theorem lifted (os : Os) (started : os.Started) (H : Type) (enc : TypeId × Value → H) :
    ReturnsInHanded {} Try.checked os 5 .any (Rows.autoCopiesSpec.pre6 enc Try.prog Try.f5 Rows.autoCopiesRow.domain false) (Rows.autoCopiesSpec.post enc Try.prog Try.f5 false true false false) := by
  refine returnsInHanded_of_change (C := Try.checked) own started (by kernel_rfl) Try.func5
    (ChangeSpec.witness6 (enc := enc) (C := Try.checked) false ⟨#[], #[.slice none 0 0], []⟩ 8 (by kernel_rfl) (by kernel_rfl) (by kernel_rfl) (by kernel_rfl)) ?_
  intro W base args ds gs before hval0 hW _ _
  have hval : ∀ (j : Nat) t v, Try.f5.params[j]? = some t → args[j]? = some v → Value.okWide Try.prog W .any base t v := hval0
  have hW' := hW
  obtain ⟨p, q, hA0, hV, rfl, hfz, hnd⟩ := hW
  have hA : DataW.TrodAll enc Try.prog W 0 (fun _ => true) true Try.f5.params.toList args.toList ds p := hA0
  rw [Try.params5] at hA hval
  obtain ⟨v0, d0, rfl, rfl, t0⟩ := trodAll_one hA
  obtain ⟨rfl, rfl⟩ := trodVars_none hV
  obtain ⟨l0, h0, z0⟩ := arg_nodes (hval 0 22 v0 rfl rfl) t0
  have hcall := hcalls_of_callF Try.func5 rfl (by decide) (autoCopies_spec h0 z0)
  refine (calls_of_hcalls hcall (R := fun W' => Below W.heap.size W W') (fun W' hb => hb)).mono ?_
  rintro e W' ⟨v, rfl, rfl, hb⟩
  exact ⟨_, rfl, law_post laidOut (by rw [Try.params5]; intro t ht; simp at ht; subst ht; exact ⟨by kernel_rfl, of_decide_eq_true (by kernel_rfl)⟩) (tb := 4) (by kernel_rfl) Try.underlying4 rfl rfl rfl rfl hW' hb⟩

theorem proved : Rows.AutoCopiesSaid :=
  OpenClaim.holds_of_wide 5 Try.f5 rfl rfl rfl rfl rfl rfl rfl ⟨rfl, rfl, rfl, rfl, rfl⟩ rfl rfl rfl rfl rfl (by kernel_rfl) Try.func5 (by kernel_rfl)
    (of_decide_eq_true (by kernel_rfl)) (by unfold Func.isWrapper; first | (rw [if_pos (by decide +kernel)]; kernel_rfl) | (rw [if_neg (by decide +kernel)]; exact ⟨rfl, rfl⟩))
    (fun os started H enc _ => lifted os started H enc)
#print axioms proved
end Go.Proofs.Ytceipfakbklcbaa.autoCopies
