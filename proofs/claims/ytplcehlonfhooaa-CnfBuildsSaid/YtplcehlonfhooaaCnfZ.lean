/- The document's maker gives a node, and those below it, their variables and clauses: need. -/
import Derived.Test.YtplcehlonfhooaaCnfE
namespace Go.Proofs.Ytplcehlonfhooaa
open Go.HL
set_option maxRecDepth 10000
set_option linter.unusedSimpArgs false
section
variable {H : Heap} {q t : Nat} {lw cv lv : Value} {s : MS} {C B : List Nat} {ns : List Pr}
set_option maxHeartbeats 4000000 in
theorem qneed_spec (hd : Dn ns) (hN : ns.length ≤ 200000) : ∀ (n : Nat), n < ns.length → ∀ (H : Heap) (s : MS) (B : List Nat), RG H t lv (ns.drop 1) → Qk H q t B s → (∀ b ∈ rB t lv, b ∉ B) → s.1.Nodup → (∀ x ∈ s.1, x < ns.length) → s.2.length ≤ 1 + 3 * s.1.length →
    CallF Try.prog 35 [hp q, iv n] H (fun v H' => v = .tuple #[] ∧ Fr B H H' ∧ ∃ B', Qk H' q t B' (needM ns n s) ∧ Grow B B' H) NoP := by
  intro n
  induction n using Nat.strongRecOn with
  | _ n ih =>
    intro hn H s B rg hq hdis hnd hrg hcs
    have hL := nodup_len _ _ hnd hrg
    have hQ := hq
    obtain ⟨lw, cv, C, hq, rfl⟩ := hq
    have rlt : ∀ b ∈ rB t lv, b < H.size := by
      intro b hb
      simp only [rB, List.mem_cons] at hb
      rcases hb with rfl | hb
      · exact rg.self.lt
      · exact rg.vl.lt b hb
    obtain ⟨p, hpn⟩ : ∃ p, ns[n]? = some p := ⟨ns[n], by simp [hn]⟩
    have hpd : ns.getD n (0, 0) = p := by rw [List.getD_eq_getElem?_getD, hpn]; rfl
    refine callF_of Try.func35 rfl Try.ntmps35 Try.results35 (by decide) rfl ?_
    simp (disch := omega) only [go_sem, ↓cw_block]
    refine call_to (qvar_spec hq (by omega)) ?_
    rintro _ _ ⟨rfl, rfl⟩
    by_cases hm : n ∈ s.1
    · have hv := varOf_pos hm
      simp (disch := omega) only [go_sem, ↓cw_block]
      exact fin ⟨rfl, Fr.refl _ _, _, by rw [needM_named hm]; exact hQ, Grow.refl⟩
    · rw [varOf_none hm]
      have c0 : cellH H ⟨q, 0, none⟩ = some (hp t) := hq.self.cell 0
      have c1 : cellH H ⟨q, 1, none⟩ = some lw := hq.self.cell 1
      have t0 : cellH H ⟨t, 0, none⟩ = some lv := rg.self.cell 0
      by_cases hz : p = (0, 0)
      · -- no and
        have fin' : ∀ (w' : Value) (H2 : Heap), QM (setH H2 ⟨q, 1, none⟩ w') q t w' cv (s.1 ++ [n], s.2) C → Fr (qB q lw cv C) H (setH H2 ⟨q, 1, none⟩ w') → (∀ b ∈ own w', b ∈ own lw ∨ H.size ≤ b) → ∃ B', Qk (setH H2 ⟨q, 1, none⟩ w') q t B' (needM ns n s) ∧ Grow (qB q lw cv C) B' H := by
          intro w' H2 q2 _ g2
          refine ⟨_, ⟨w', cv, C, ?_, rfl⟩, Qk.grow g2 (fun b hb => .inl hb) (fun b hb => .inl hb)⟩
          rw [needM_leaf hm (by rw [hpd, hz])]
          simpa [giveM] using q2
        by_cases h0 : n = 0
        · subst h0
          simp (disch := omega) only [go_sem, ↓cw_block, c0, c1, t0]
          refine qpush (n := 0) hq (by omega) ?_
          rintro w' H2 w2 q2 F2 g2 ⟨a2, c2, rfl⟩
          simp (disch := omega) only [go_sem, ↓cw_block, w2]
          exact fin ⟨rfl, F2, fin' _ _ q2 F2 g2⟩
        · have hp1 : (ns.drop 1)[n - 1]? = some p := by rw [List.getElem?_drop]; rw [show 1 + (n - 1) = n by omega]; exact hpn
          obtain ⟨bb, oo, cc, el, hc⟩ := rg.vl.rows rgc_len (by omega) hp1
          have y0 := hc 0 (by omega)
          simp only [List.getElem?_cons_zero, Nat.add_zero, decide_eq_true hz] at y0
          have hlen : (ns.drop 1).length = ns.length - 1 := by simp
          rw [hlen] at el
          rw [el] at t0
          have en : (n : Int) - 1 = ((n - 1 : Nat) : Int) := by omega
          simp (disch := omega) only [go_sem, ↓cw_block, c0, c1, t0, en, y0]
          refine qpush (n := n) hq (by omega) ?_
          rintro w' H2 w2 q2 F2 g2 ⟨a2, c2, rfl⟩
          simp (disch := omega) only [go_sem, ↓cw_block, w2]
          exact fin ⟨rfl, F2, fin' _ _ q2 F2 g2⟩
      · have hk := hd.kid n (by rw [hpd]; exact hz)
        rw [hpd] at hk
        have hp1 : (ns.drop 1)[n - 1]? = some p := by rw [List.getElem?_drop]; rw [show 1 + (n - 1) = n by omega]; exact hpn
        obtain ⟨bb, oo, cc, el, hc⟩ := rg.vl.rows rgc_len (by omega) hp1
        have y0 := hc 0 (by omega)
        have y1 := hc 1 (by omega)
        have y2 := hc 2 (by omega)
        simp only [List.getElem?_cons_zero, List.getElem?_cons_succ, Nat.add_zero, decide_eq_false hz] at y0 y1 y2
        have hlen : (ns.drop 1).length = ns.length - 1 := by simp
        rw [hlen] at el
        rw [el] at t0
        have en : (n : Int) - 1 = ((n - 1 : Nat) : Int) := by omega
        have ea : (p.1 : Int) / 2 = ((p.1 / 2 : Nat) : Int) := by omega
        have eb : (p.2 : Int) / 2 = ((p.2 / 2 : Nat) : Int) := by omega
        simp (disch := omega) only [go_sem, ↓cw_block, c0, c1, t0, en, y0, y1, y2, ea]
        refine call_to (ih (p.1 / 2) hk.1 (by omega) H s _ rg hQ hdis hnd hrg hcs) ?_
        rintro _ H1 ⟨rfl, f1, B1, q1, g1⟩
        obtain ⟨u1, u2, u3, u4, u5, u6, u7, u8⟩ := needM_list hd (p.1 / 2) s
        have rg1 := rg.frame f1 hdis
        have hdis1 : ∀ b ∈ rB t lv, b ∉ B1 := fun b hb e => (g1 b e).elim (hdis b hb) (fun h => by have := rlt b hb; omega)
        simp (disch := omega) only [go_sem, ↓cw_block, eb]
        refine call_to (ih (p.2 / 2) hk.2 (by omega) H1 _ B1 rg1 q1 hdis1 (u5 hnd) (fun x hx => (needM_mem hd hx).elim (hrg x) (fun e => by omega)) (by rw [u8, u2, List.length_append]; omega)) ?_
        rintro _ H2 ⟨rfl, f2, B2, q2, g2⟩
        obtain ⟨v1, v2, v3, v4, v5, v6, v7, v8⟩ := needM_list hd (p.2 / 2) (needM ns (p.1 / 2) s)
        have F2 : Fr (qB q lw cv C) H H2 := Fr.grow f1 f2 g1
        have G2 : Grow (qB q lw cv C) B2 H := g1.trans g2 f1.size
        have eN : needM ns n s = giveM p n (needM ns (p.2 / 2) (needM ns (p.1 / 2) s)) := by
          have := needM_and hd hm (by rw [hpd]; exact hz)
          rw [hpd] at this
          exact this
        rw [eN]
        have nd2 : (needM ns (p.2 / 2) (needM ns (p.1 / 2) s)).1.Nodup := v5 (u5 hnd)
        have rg2 : ∀ x ∈ (needM ns (p.2 / 2) (needM ns (p.1 / 2) s)).1, x < ns.length := fun x hx => (needM_mem hd hx).elim (fun hx => (needM_mem hd hx).elim (hrg x) (fun e => by omega)) (fun e => by omega)
        have hL2 := nodup_len _ _ nd2 rg2
        have hcs2 : (needM ns (p.2 / 2) (needM ns (p.1 / 2) s)).2.length ≤ 1 + 3 * (needM ns (p.2 / 2) (needM ns (p.1 / 2) s)).1.length := by
          rw [v8, u8, v2, u2, List.length_append, List.length_append]; omega
        generalize needM ns (p.2 / 2) (needM ns (p.1 / 2) s) = s2 at q2 nd2 rg2 hL2 hcs2
        obtain ⟨lw2, cv2, C2, q2, rfl⟩ := q2
        have d1 : cellH H2 ⟨q, 1, none⟩ = some lw2 := q2.self.cell 1
        simp (disch := omega) only [go_sem, ↓cw_block, d1]
        refine qpush (n := n) q2 (by omega) ?_
        rintro w' H3 w3 q3 F3 g3 ⟨a3, c3, rfl⟩
        generalize hH4 : setH H3 ⟨q, 1, none⟩ (.slice a3 (s2.1.length + 1) c3) = H4 at q3 F3 w3
        have k1 : cellH H4 ⟨q, 1, none⟩ = some (.slice a3 (s2.1.length + 1) c3) := q3.self.cell 1
        have k2 : cellH H4 ⟨q, 2, none⟩ = some cv2 := q3.self.cell 2
        have hlen3 : (s2.1 ++ [n]).length = s2.1.length + 1 := by simp
        have lx := litM_rng (L := s2.1 ++ [n]) (e := p.1)
        have ly := litM_rng (L := s2.1 ++ [n]) (e := p.2)
        rw [hlen3] at lx ly
        simp (disch := omega) only [go_sem, ↓cw_block, w3, k1]
        have hh : heldOK [(⟨q, 2, none⟩, cv2)] H4 := heldOK_one k2
        have hz4 := q3.self.lt
        have leaf : ∀ (K : Heap) (b1 b2 b3 : Nat) (k : Value → Heap → Prop), Fr [] H4 K → Blk K b1 3 [iv (-((s2.1.length + 1 : Nat) : Int)), iv (litM (s2.1 ++ [n]) p.1)] → Blk K b2 3 [iv (-((s2.1.length + 1 : Nat) : Int)), iv (litM (s2.1 ++ [n]) p.2)] → Blk K b3 3 [iv ((s2.1.length + 1 : Nat) : Int), iv (- litM (s2.1 ++ [n]) p.1), iv (- litM (s2.1 ++ [n]) p.2)] →
            H4.size ≤ b1 → H4.size ≤ b2 → H4.size ≤ b3 →
            (∀ v' H5, heldOK [(⟨q, 2, none⟩, cv2)] H5 → wr H5 ⟨q, 2, none⟩ v' = some (setH H5 ⟨q, 2, none⟩ v') → Fr (qB q lw cv C) H (setH H5 ⟨q, 2, none⟩ v') → (∃ B', Qk (setH H5 ⟨q, 2, none⟩ v') q t B' (giveM p n s2) ∧ Grow (qB q lw cv C) B' H) → (∃ a c, v' = .slice a (s2.2.length + 3) c) → k v' H5) →
            @appB Try.prog 32 32 cv2 (.slice (some ⟨K.size, 0, none⟩) 3 3) ⟨K.push (.cells #[.slice (some ⟨b1, 0, none⟩) 2 2, .slice (some ⟨b2, 0, none⟩) 2 2, .slice (some ⟨b3, 0, none⟩) 3 3] 26)⟩ ⟨k⟩ := by
          intro K b1 b2 b3 k f1 e1 e2 e3 l1 l2 l3 hk
          refine app3 (x := [-((s2.1.length + 1 : Nat) : Int), litM (s2.1 ++ [n]) p.1]) (y := [-((s2.1.length + 1 : Nat) : Int), litM (s2.1 ++ [n]) p.2]) (z := [((s2.1.length + 1 : Nat) : Int), - litM (s2.1 ++ [n]) p.1, - litM (s2.1 ++ [n]) p.2]) T.el32 rfl q3.vc (fun b hb => (q3.s4 b hb).1) (by omega) (by simp only; omega) f1 e1 e2 e3 l1 l2 l3 ?_
          rintro v' H5 m1 m2 m3 m4 m5 ⟨a5, c5, rfl⟩
          have hb5 := m2.blk q3.self q3.s2
          have hc5 := m2.cell' k2 q3.s2
          have F5 : Fr [q] H5 (setH H5 ⟨q, 2, none⟩ (.slice a5 (s2.2.length + 3) c5)) := Fr.set (by simp)
          have nq : q ∉ own (Value.slice a5 (s2.2.length + 3) c5) := fun e => (m3 q e).elim q3.s2 (fun e => by omega)
          have hvl : ∀ b ∈ own cv2, b < H4.size := by obtain ⟨cvs, a, _⟩ := q3.vc; exact a.lt
          have hwl := q3.vl.lt
          refine hk _ H5 (heldOK_one hc5) (hb5.wr (by simp) _) ?_ ⟨_, ⟨_, _, C2 ++ [b1, b2, b3], ⟨hb5.set 2 _, ?_, ?_, q3.s1, nq, ?_, ?_, ?_⟩, rfl⟩, ?_⟩ ⟨a5, c5, rfl⟩
          · exact Fr.grow (Fr.grow F2 F3 G2) (((m2.mono (fun b _ hb => by simp [qB, hb]))).trans (F5.mono (fun b _ hb => by simp at hb; simp [qB, hb])) : Fr (qB q (.slice a3 (s2.1.length + 1) c3) cv2 C2) H4 _) (G2.trans (H' := H2) (Qk.grow g3 (fun b hb => .inl hb) (fun b hb => .inl hb)) F2.size)
          · exact (q3.vl.frame m2 (fun b hb => q3.s3 b hb)).frame F5 (by intro b hb e; simp at e; subst e; exact q3.s1 hb)
          · have e5 : (giveM p n s2).2 = s2.2 ++ [[-((s2.1.length + 1 : Nat) : Int), litM (s2.1 ++ [n]) p.1], [-((s2.1.length + 1 : Nat) : Int), litM (s2.1 ++ [n]) p.2], [((s2.1.length + 1 : Nat) : Int), - litM (s2.1 ++ [n]) p.1, - litM (s2.1 ++ [n]) p.2]] := by
              simp [giveM, hz]
            rw [e5]
            refine m1.frame F5 (by intro b hb e; simp at e; subst e; exact nq hb) (fun b hb e => ?_)
            simp at e; subst e
            simp only [List.mem_append, List.mem_cons, List.not_mem_nil, or_false] at hb
            rcases hb with hb | hb | hb | hb
            · exact (q3.s4 b hb).2.2 rfl
            all_goals omega
          · exact fun b hb e => (m3 b e).elim (q3.s3 b hb) (fun h => by have := hwl b hb; omega)
          · intro b hb
            simp only [List.mem_append] at hb
            rcases hb with hb | hb
            · exact ⟨fun e => (m3 b e).elim (q3.s4 b hb).1 (fun h => by have := q3.cl b hb; omega), (q3.s4 b hb).2⟩
            · have := m4 b hb
              exact ⟨this.2.2, fun e => by have := hwl b e; omega, by omega⟩
          · intro b hb
            rw [size_setH]
            simp only [List.mem_append] at hb
            rcases hb with hb | hb
            · have := q3.cl b hb; omega
            · exact (m4 b hb).2.1
          · refine G2.trans (H' := H2) (Qk.grow g3 (fun b hb => (m3 b hb).imp id (fun h => ?_)) (fun b hb => ?_)) F2.size
            · have := F3.size; omega
            · simp only [List.mem_append] at hb
              exact hb.imp id (fun h => by have := (m4 b h).1; have := F3.size; omega)
        refine draw1 (lk [(0, false), (1, false), (2, false), (3, false), (4, false), (5, false), (6, false), (7, true), (8, true), (11, false), (12, false), (13, false), (14, false), (17, false), (18, false), (19, false), (22, false), (23, false)] (.act 9 (.act 10 (.act 15 (.act 16 (.act 20 (lk [(21, false)] (.act 24 (lk [(25, false)] (.act 26 (.act 27 (.act 28 (lk [(29, true), (30, true)] (.actd 31 .fin)) .non) .non) .non)) .non)) .non) (.act 20 (lk [(21, false)] (.act 16 (.act 24 (lk [(25, false)] (.act 26 (.act 27 (.act 28 (lk [(29, true), (30, true)] (.actd 31 .fin)) .non) .non) .non)) .non) (.act 24 (lk [(25, false)] (.act 16 (.act 26 (.act 27 (.act 28 (lk [(29, true), (30, true)] (.actd 31 .fin)) .non) .non) .non) (.act 26 (.act 16 (.act 27 (.act 28 (lk [(29, true), (30, true)] (.actd 31 .fin)) .non) .non) .non) .non))) .non))) .non)) .non) (.act 15 (.act 10 (.act 16 (.act 20 (lk [(21, false)] (.act 24 (lk [(25, false)] (.act 26 (.act 27 (.act 28 (lk [(29, true), (30, true)] (.actd 31 .fin)) .non) .non) .non)) .non)) .non) (.act 20 (lk [(21, false)] (.act 16 (.act 24 (lk [(25, false)] (.act 26 (.act 27 (.act 28 (lk [(29, true), (30, true)] (.actd 31 .fin)) .non) .non) .non)) .non) (.act 24 (lk [(25, false)] (.act 16 (.act 26 (.act 27 (.act 28 (lk [(29, true), (30, true)] (.actd 31 .fin)) .non) .non) .non) (.act 26 (.act 16 (.act 27 (.act 28 (lk [(29, true), (30, true)] (.actd 31 .fin)) .non) .non) .non) .non))) .non))) .non)) (.act 16 (.act 10 (.act 20 (lk [(21, false)] (.act 24 (lk [(25, false)] (.act 26 (.act 27 (.act 28 (lk [(29, true), (30, true)] (.actd 31 .fin)) .non) .non) .non)) .non)) .non) (.act 20 (lk [(21, false)] (.act 10 (.act 24 (lk [(25, false)] (.act 26 (.act 27 (.act 28 (lk [(29, true), (30, true)] (.actd 31 .fin)) .non) .non) .non)) .non) (.act 24 (lk [(25, false)] (.act 10 (.act 26 (.act 27 (.act 28 (lk [(29, true), (30, true)] (.actd 31 .fin)) .non) .non) .non) (.act 26 (.act 10 (.act 27 (.act 28 (lk [(29, true), (30, true)] (.actd 31 .fin)) .non) .non) .non) .non))) .non))) .non)) (.act 20 (lk [(21, false)] (.act 10 (.act 16 (.act 24 (lk [(25, false)] (.act 26 (.act 27 (.act 28 (lk [(29, true), (30, true)] (.actd 31 .fin)) .non) .non) .non)) .non) (.act 24 (lk [(25, false)] (.act 16 (.act 26 (.act 27 (.act 28 (lk [(29, true), (30, true)] (.actd 31 .fin)) .non) .non) .non) (.act 26 (.act 16 (.act 27 (.act 28 (lk [(29, true), (30, true)] (.actd 31 .fin)) .non) .non) .non) .non))) .non)) (.act 16 (.act 10 (.act 24 (lk [(25, false)] (.act 26 (.act 27 (.act 28 (lk [(29, true), (30, true)] (.actd 31 .fin)) .non) .non) .non)) .non) (.act 24 (lk [(25, false)] (.act 10 (.act 26 (.act 27 (.act 28 (lk [(29, true), (30, true)] (.actd 31 .fin)) .non) .non) .non) (.act 26 (.act 10 (.act 27 (.act 28 (lk [(29, true), (30, true)] (.actd 31 .fin)) .non) .non) .non) .non))) .non)) (.act 24 (lk [(25, false)] (.act 10 (.act 16 (.act 26 (.act 27 (.act 28 (lk [(29, true), (30, true)] (.actd 31 .fin)) .non) .non) .non) (.act 26 (.act 16 (.act 27 (.act 28 (lk [(29, true), (30, true)] (.actd 31 .fin)) .non) .non) .non) .non)) (.act 16 (.act 10 (.act 26 (.act 27 (.act 28 (lk [(29, true), (30, true)] (.actd 31 .fin)) .non) .non) .non) (.act 26 (.act 10 (.act 27 (.act 28 (lk [(29, true), (30, true)] (.actd 31 .fin)) .non) .non) .non) .non)) (.act 26 (.act 10 (.act 16 (.act 27 (.act 28 (lk [(29, true), (30, true)] (.actd 31 .fin)) .non) .non) .non) (.act 16 (.act 10 (.act 27 (.act 28 (lk [(29, true), (30, true)] (.actd 31 .fin)) .non) .non) .non) .non)) .non)))) .non)))) .non))) .non)) .non)) T.mixed [(⟨q, 2, none⟩, cv2)] hh ?_
        repeat' (first
          | with_reducible refine both_of ?_ ?_
          | with_reducible refine held_by ?_ ?_
          | with_reducible exact hh
          | with_reducible refine held_push ?_
          | (refine call_to (qlit_spec (q3.frame (F := []) (by repeat (first | exact Fr.refl _ _ | refine Fr.push' ?_)) (by simp)) (by simp; omega) (by omega)) ?_; rintro _ _ ⟨rfl, rfl⟩)
          | simp (disch := omega) only [go_sem, ↓cw_block, w3, k1, k2])
        all_goals
          refine leaf _ _ _ _ _ (by repeat (first | exact Fr.refl _ _ | refine Fr.push' ?_)) (by repeat (first | exact Blk.new rfl | refine Blk.push ?_ _)) (by repeat (first | exact Blk.new rfl | refine Blk.push ?_ _)) (by repeat (first | exact Blk.new rfl | refine Blk.push ?_ _)) (by simp <;> omega) (by simp <;> omega) (by simp <;> omega) ?_
          rintro v' H5 hh5 w5 F5 Q5 ⟨a5, c5, rfl⟩
          with_reducible refine held_by hh5 ?_
          simp (disch := omega) only [go_sem, ↓cw_block, w5]
          exact fin ⟨rfl, F5, Q5⟩
end
end Go.Proofs.Ytplcehlonfhooaa
