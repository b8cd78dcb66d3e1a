/- The law on any graph: that it returns true. -/
import Derived.Test.YtplcehlonfhooaaCnfC
import Derived.Test.YtplcehlonfhooaaArg
namespace Go.Proofs.Ytplcehlonfhooaa
open Go.HL
set_option maxRecDepth 10000
set_option linter.unusedSimpArgs false
set_option linter.unusedVariables false

theorem ownM_neg {ns : List Pr} {e : Int} (h : e < 0) : ownM ns e = 0 := by unfold ownM; rw [if_neg (by omega)]
theorem ArgActs.frame {H H' : Heap} {v : Value} {rows : List (Int × Int × Int)} (h : ArgActs H v rows) (f : Fr [] H H') : ArgActs H' v rows := by
  obtain ⟨a, c, rfl, hat⟩ := h
  refine ⟨a, c, rfl, fun i x hx => ?_⟩
  obtain ⟨⟨b, o, e1, e2, e3, e4⟩, h5⟩ := hat i x hx
  exact ⟨⟨b, o, e1, f.cell' e2 (by simp), f.cell' e3 (by simp), f.cell' e4 (by simp)⟩, h5⟩
theorem map_take {α β : Type} {l : List α} {f : α → β} {i : Nat} (h : i < l.length) : (l.map f).take (i + 1) = (l.map f).take i ++ [f l[i]] := by
  rw [take1 (by simpa using h)]; simp
theorem eV_even {f : Nat → Bool} {n : Nat} : eV f (2 * n) = f n := by
  unfold eV
  rw [show 2 * n / 2 = n by omega, decide_eq_false (by omega)]
  cases f n <;> rfl
theorem Ok.len {ns : List Pr} {s : MS} (h : Ok ns s) : ∀ c ∈ s.2, c.length ≤ 1000000 := by
  intro c hc
  rcases h.only c hc with rfl | ⟨n, _, _, rfl | rfl | rfl⟩ <;> simp [cl1, cl2, cl3]
section
variable {H : Heap}
set_option maxHeartbeats 4000000 in
theorem builds_spec {v0 v1 : Value} {rows : List (Int × Int × Int)} {model : List Bool} (hv : ArgActs H v0 rows) (hz : BR H v1 model) :
    CallF Try.prog 5 [v0, v1] H (fun r H' => r = .bool true ∧ Fr [] H H') NoP := by
  have hv' := hv
  obtain ⟨a, c, rfl, hat⟩ := hv'
  have hz' := hz
  obtain ⟨ma, mc, rfl, hma⟩ := hz'
  refine callF_of Try.func5 rfl Try.ntmps5 Try.results5 (by decide) rfl ?_
  by_cases hbig : 25 < rows.length ∨ 60 < model.length
  · simp (disch := omega) only [go_sem, ↓cw_block]
    refine call_to awake_spec ?_
    rintro _ H1 ⟨rfl, f1⟩
    by_cases h0 : 25 < rows.length
    · simp (disch := omega) only [go_sem, ↓cw_block]
      refine call_to awake_spec ?_
      rintro _ H2 ⟨rfl, f2⟩
      simp (disch := omega) only [go_sem, ↓cw_block]
      exact fin ⟨rfl, f1.trans f2⟩
    · simp (disch := omega) only [go_sem, ↓cw_block]
      refine call_to awake_spec ?_
      rintro _ H2 ⟨rfl, f2⟩
      simp (disch := omega) only [go_sem, ↓cw_block]
      exact fin ⟨rfl, f1.trans f2⟩
  · simp (disch := omega) only [go_sem, ↓cw_block]
    refine call_to awake_spec ?_
    rintro _ H1 ⟨rfl, f1⟩
    have hv1 := hv.frame f1
    simp (disch := omega) only [go_sem, ↓cw_block]
    refine call_to (made_spec hv1 (by omega)) ?_
    rintro _ H2 ⟨g, Bg, ns, ins, w, es, rfl, ge, hes, hns⟩
    simp (disch := omega) only [go_sem, ↓cw_block]
    refine call_to (told_spec ge.gr (by omega)) ?_
    rintro _ H3 ⟨f3, t, lv, rfl, rg, nrg⟩
    have g3 := ge.gr.frame f3 (by simp)
    simp (disch := omega) only [go_sem, ↓cw_block]
    refine call_to cnew_spec ?_
    rintro _ H4 ⟨f4, m, Bm, rfl, k4, m4⟩
    simp (disch := omega) only [go_sem, ↓cw_block]
    refine call_to qnew_spec ?_
    rintro _ H5 ⟨f5, q, Bq, rfl, k5, m5⟩
    have hw3 : IV H3 3 w (es.map Int.ofNat) := ge.iv.frame f3 (by simp)
    have hwl := hw3.lt
    have hpos := g3.w.1
    have hd : Dn ns := g3.w.2.2.1
    have hins := g3.w.2.2.2.1
    have hnod := g3.w.2.2.2.2.1
    have hil := g3.w.2.2.2.2.2
    have hgl := g3.lt
    have hn0 : ns.getD 0 (0, 0) = (0, 0) := by
      rw [List.getD_eq_getElem?_getD]
      have h0 : ns[0]? = some ns[0] := by simp [hpos]
      rw [h0]
      rcases hd 0 ns[0] h0 with h | ⟨_, h, _⟩
      · exact h
      · omega
    obtain ⟨wa, wc, hwf⟩ := ge.iv.form
    rw [List.length_map] at hwf
    subst hwf
    have s3 := f3.size
    have s4 := f4.size
    have F3 : Fr [] H H3 := (f1.trans ge.fr).trans f3
    have rlt := rg.lt
    have pq0 : PQ H3 H5 g m q t lv Bg Bm Bq ns ins ([0], [[-1]]) ([0], [[-1]]) (.slice none 0 0) [] [] :=
      { fr := f4.trans f5
        gm := ⟨(g3.frame f4 (by simp)).frame f5 (by simp), k4.frame f5 (by simp), fun b hb e => by have := hgl b hb; have := m4 b e; omega, by simp, by simpa using hpos, by simp⟩
        qr := ⟨(rg.frame f4 (by simp)).frame f5 (by simp), k5, fun b hb e => by have := rlt b hb; have := m5 b e; omega, by simp, by simpa using hpos, by simp⟩
        cvk := ⟨[], Vec.nil, rfl, by simp⟩, bg := hgl, br := rlt, nm := m4, nq := fun b hb => by have := m5 b hb; omega, nc := by simp [own], d1 := fun b hb e => by have := m5 b e; have := k4.lt b hb; omega, d2 := by simp [own], d3 := by simp, cl := by simp [own] }
    have e0 : (es.length : Int) - 1 = ((es.length : Nat) : Int) - 1 := rfl
    simp (disch := omega) only [go_sem, ↓cw_block]
    refine loop_by (fun k ρ K => ∃ (i : Nat) (L : List Nat) (E D : List (List Int)) (Bm Bq C : List Nat) (cv : Value), k = i ∧ i ≤ es.length ∧ (ρ.get 1 = .slice ma model.length mc ∧ ρ.get 5 = hp g ∧ ρ.get 6 = .slice wa es.length wc ∧ ρ.get 8 = hp m ∧ ρ.get 9 = hp q ∧ ρ.get 10 = cv ∧ ρ.get 11 = iv ((i : Int) - 1) ∧ ρ.ds = []) ∧
      PQ H3 K g m q t lv Bg Bm Bq ns ins (L, D) (L, E ++ D) cv E C ∧ Ok ns (L, E ++ D) ∧ (i < es.length → D = [])) (k := es.length) ?_ ?_
    · exact ⟨es.length, [0], [], [[-1]], Bm, Bq, [], .slice none 0 0, rfl, by omega, by simp (disch := omega) only [go_sem, ↓cw_block], pq0, Ok.start hn0, by omega⟩
    · clear pq0 k4 k5 m4 m5 f4 f5 s4
      clear Bm Bq
      rintro i ρ K ⟨_, L, E, D, Bm, Bq, C, cv, rfl, hi, ⟨r1, r5, r6, r8, r9, r10, r11, rd⟩, pq, ok, hD⟩
      have hLl := pq.gm.len
      have hcq := pq.qr.cs
      simp only [List.length_append] at hLl hcq
      by_cases hin : 0 < i
      · obtain ⟨j, rfl⟩ : ∃ j, i = j + 1 := ⟨i - 1, by omega⟩
        have hj : j < es.length := by omega
        have ej : ((j + 1 : Nat) : Int) - 1 = (j : Int) := by omega
        rw [ej] at r11
        obtain ⟨bw, ow, cw', ew, hcw⟩ := hw3.at (i := j) (by simpa using hj)
        rw [nt_nat hj] at hcw
        simp only [Value.slice.injEq] at ew
        obtain ⟨rfl, _, rfl⟩ := ew
        have hei := ge.ed es[j] (List.getElem_mem hj)
        have oe := ownM_of hei
        have hc1 := pq.fr.cell' hcw (by simp)
        simp (disch := omega) only [go_sem, ↓cw_block, r1, r5, r6, r8, r9, r10, r11, rd]
        refine draw1 (lk [(0, true), (1, true), (2, true), (3, true), (4, true), (6, false), (7, false), (8, false), (9, false), (10, false)] (.act 5 (.acth 11 (lk [(12, true), (13, true), (14, true)] (.acth 15 (lk [(16, true), (17, true), (18, true), (19, true), (21, false), (22, false), (23, false), (24, false), (25, false)] (.act 20 (lk [(26, true), (27, true)] .fin) .non))))) .non)) T.mixed [(⟨bw, ow + j, none⟩, iv es[j])] (heldOK_one hc1) ?_
        simp (disch := omega) only [go_sem, ↓cw_block, r1, r5, r6, r8, r9, r10, r11, rd, hc1]
        refine call_to (mLit_pq pq (by omega)) ?_
        rw [oe]
        rintro _ K1 ⟨rfl, f1', Bm1, pq1⟩
        refine held_by (heldOK_one (pq1.fr.cell' hcw (by simp))) ?_
        simp (disch := omega) only [go_sem, ↓cw_block, r1, r5, r6, r8, r9, r10, r11, rd]
        refine call_to (qLit_pq pq1 hei) ?_
        rintro _ K2 ⟨rfl, f2', Bq2, pq2⟩
        have ok2 := ok.need hd (es[j] / 2)
        rw [needM_split hd] at pq2 ok2
        generalize hs1 : needM ns (es[j] / 2) (L, D) = s1 at pq2 ok2
        obtain ⟨L1, D1⟩ := s1
        simp only at pq2 ok2
        rw [needM_split hd, hs1]
        simp only
        refine rehold_by [] heldOK_nil ?_
        simp (disch := omega) only [go_sem, ↓cw_block, r1, r5, r6, r8, r9, r10, r11, rd]
        refine call_to (mLit_pq pq2 (e := -5) (by omega)) ?_
        rw [ownM_neg (by omega)]
        simp only [Nat.zero_div]
        rw [needM_named (s := (L1, D1)) ok2.z]
        rintro _ K3 ⟨rfl, f3', Bm3, pq3⟩
        have l1 : litM L1 0 = 1 := ok2.v0
        obtain ⟨lw, cw, Cq, qm, hBq⟩ := pq3.qr.qk
        have q1 : cellH K3 ⟨q, 1, none⟩ = some lw := qm.self.cell 1
        obtain ⟨la, lc, el⟩ := qm.vl.form
        rw [List.length_map] at el
        subst el
        simp only [l1]
        refine rehold_by [(⟨q, 1, none⟩, .slice la L1.length lc)] (heldOK_one q1) ?_
        simp (disch := omega) only [go_sem, ↓cw_block, r1, r5, r6, r8, r9, r10, r11, rd]
        refine call_to (vars_spec pq3.gm.mkr) ?_
        rintro _ _ ⟨rfl, rfl⟩
        refine held_by (heldOK_one q1) ?_
        simp (disch := omega) only [go_sem, ↓cw_block, r1, r5, r6, r8, r9, r10, r11, rd]
        have hcq3 := pq3.qr.cs
        have hLl3 := pq3.gm.len
        simp only [List.length_append] at hLl3 hcq3
        refine call_to (take_pq pq3 (by simp only; omega)) ?_
        intro v K4 hv4
        simp (disch := omega) only [go_sem, ↓cw_block, r1, r5, r6, r8, r9, r10, r11, rd]
        refine hv4 _ ?_
        intro cv' K5 Bm5 C5 pq5
        simp (disch := omega) only [go_sem, ↓cw_block, r1, r5, r6, r8, r9, r10, r11, rd]
        refine fin ⟨j, by omega, j, L1, E ++ D1, [], Bm5, Bq2, C5, cv', rfl, by omega, by simp (disch := omega) only [go_sem, ↓cw_block, r1, r5, r6, r8, r9, r10, r11, rd], by simpa using pq5, by simpa using ok2, fun _ => rfl⟩
      · have : i = 0 := by omega
        subst this
        have hD0 := hD (by omega)
        subst hD0
        rw [List.append_nil] at pq ok
        have hLn : L.length ≤ 200 := by omega
        have hEl : E.length ≤ 1000 := by simp at hcq; omega
        have hLz : 0 < L.length := List.length_pos_of_mem ok.z
        obtain ⟨lw, cw, Cq, qm, hBq⟩ := pq.qr.qk
        have q2 : cellH K ⟨q, 2, none⟩ = some cw := qm.self.cell 2
        simp (disch := omega) only [go_sem, ↓cw_block, r1, r5, r6, r8, r9, r10, r11, rd, q2]
        refine call_to (lists_spec (CR.of_CVec pq.cvk) (CR.of_CVec qm.vc) (by omega) ok.len) ?_
        rintro _ _ ⟨rfl, rfl⟩
        simp only [decide_true]
        simp (disch := omega) only [go_sem, ↓cw_block, r1, r5, r6, r8, r9, r10, r11, rd]
        have F3K := pq.fr

        refine loop_by (fun k ρ K => ∃ (i : Nat) (vv : Value), k = L.length - i ∧ i ≤ L.length ∧ (ρ.get 1 = .slice ma model.length mc ∧ ρ.get 5 = hp g ∧ ρ.get 8 = hp m ∧ ρ.get 9 = hp q ∧ ρ.get 10 = cv ∧ ρ.get 12 = vv ∧ ρ.get 13 = iv i ∧ ρ.ds = []) ∧
          PQ H3 K g m q t lv Bg Bm Bq ns ins (L, []) (L, E) cv E C ∧ BV K 4 vv ((L.map (nv ns ins model)).take i) ∧ (∀ b ∈ own vv, H3.size ≤ b ∧ b ∉ Bm ∧ b ∉ Bq ∧ b ∉ own cv ++ C)) (k := L.length) ?_ ?_
        · exact ⟨0, .slice none 0 0, rfl, by omega, by simp (disch := omega) only [go_sem, ↓cw_block, r1, r5, r8, r9, r10, rd], pq, Vec.nil, by simp [own]⟩
        · clear r1 r5 r6 r8 r9 r10 r11 rd pq F3K qm hBq q2 lw cw Cq ρ K
          rintro k ρ K ⟨i, vv, rfl, hi, ⟨r1, r5, r8, r9, r10, r12, r13, rd⟩, pq, hvv, hvo⟩
          have hi1 : (i : Int) + 1 = ((i + 1 : Nat) : Int) := by omega
          obtain ⟨lw, cw, Cq, qm, hBq⟩ := pq.qr.qk
          have q1 : cellH K ⟨q, 1, none⟩ = some lw := qm.self.cell 1
          obtain ⟨la, lc, el⟩ := qm.vl.form
          rw [List.length_map] at el
          subst el
          have FK : Fr [] H K := F3.trans pq.fr
          by_cases hin : i < L.length
          · obtain ⟨bl, ol, cl', el, hcl⟩ := qm.vl.at (i := i) (by simpa using hin)
            rw [nt_nat hin] at hcl
            simp only [Value.slice.injEq] at el
            obtain ⟨rfl, _, rfl⟩ := el
            have hrn := pq.gm.rg L[i] (List.getElem_mem hin)
            have e2 : 2 * ((L[i] : Nat) : Int) = ((2 * L[i] : Nat) : Int) := by omega
            obtain ⟨K1, hK1⟩ : ∃ K1, K1 = K.push (.cells #[iv (2 * L[i] : Nat)] 3) := ⟨_, rfl⟩
            have fK1 : Fr [] K K1 := by rw [hK1]; exact Fr.push
            have bK1 : Blk K1 K.size 3 [iv (2 * L[i] : Nat)] := by rw [hK1]; exact Blk.new rfl
            simp (disch := omega) only [go_sem, ↓cw_block, r1, r5, r8, r9, r10, r12, r13, rd, q1, hcl, e2]
            rw [← hK1]
            refine call_to (eval_spec (pq.gm.gr.frame fK1 (by simp)) ((hz.frame FK (by simp)).frame fK1 (by simp)) (by omega) bK1 (by omega)) ?_
            rintro _ K2 ⟨fK2, b6, o6, c6, rfl, hc6⟩
            rw [eV_even] at hc6
            have pq2 := (pq.frame fK1 (by simp)).frame fK2 (by simp)
            have hvv2 := (hvv.frame fK1 (by simp)).frame fK2 (by simp)
            simp (disch := omega) only [go_sem, ↓cw_block, r1, r5, r8, r9, r10, r12, r13, rd, hc6]
            refine app_lit1 T.el41 rfl hvv2 rfl (by simp; omega) ?_
            rintro v' K3 k1 k2 k3 _
            have lm := pq2.gm.mkr.lt
            have lq := pq2.qr.qk.lt
            have hs2 := pq2.fr.size
            simp (disch := omega) only [go_sem, ↓cw_block, r1, r5, r8, r9, r10, r12, r13, rd]
            refine fin ⟨L.length - (i + 1), by omega, i + 1, v', rfl, by omega, by simp (disch := omega) only [go_sem, ↓cw_block, r1, r5, r8, r9, r10, r12, r13, rd, hi1], pq2.frame k2 hvo, ?_, fun b hb => (k3 b hb).elim (hvo b) (fun h => ⟨by omega, fun e => by have := lm b e; omega, fun e => by have := lq b e; omega, fun e => by have := pq2.cl b e; omega⟩)⟩
            unfold BV
            rw [map_take hin, List.map_append]
            exact k1
          · have : i = L.length := by omega
            subst this
            rw [List.take_of_length_le (by simp)] at hvv
            have hrep : RepV L (nv ns ins model) (L.map (nv ns ins model)) := ⟨by simp, fun i h => by simp [bt, h]⟩
            have hnv : ∀ n ∈ L, ns.getD n (0, 0) ≠ (0, 0) → nv ns ins model n = (eV (nv ns ins model) (ns.getD n (0, 0)).1 && eV (nv ns ins model) (ns.getD n (0, 0)).2) := fun n _ hp => nv_and hd hp
            have h00 : nv ns ins model 0 = false := by
              rw [nv_leaf hn0]
              unfold inV
              rw [decide_eq_false (fun h => by have := (hins 0 h).1; omega)]; rfl
            have hall := all_hold ok (by simp only; omega) hrep h00 hnv
            simp only at hall
            have hva : (L.map (nv ns ins model)).length = L.length := by simp
            simp (disch := omega) only [go_sem, ↓cw_block, r1, r5, r8, r9, r10, r12, r13, rd, q1]
            refine call_to (all_spec (CR.of_CVec pq.cvk) (BR.of_BV hvv) (by omega) (by omega) ok.len) ?_
            rintro _ _ ⟨rfl, rfl⟩
            rw [hall]
            simp (disch := omega) only [go_sem, ↓cw_block, r1, r5, r8, r9, r10, r12, r13, rd]
            refine call_to (cinputs_spec pq.gm (BR.of_BV hvv) (by omega)) ?_
            rintro iw K2 ⟨fK2, hiw, how⟩
            obtain ⟨ia, ic, ei⟩ := hiw.form
            rw [List.length_map] at ei
            subst ei
            simp (disch := omega) only [go_sem, ↓cw_block, r1, r5, r8, r9, r10, r12, r13, rd]
            refine loop_by (fun k ρ K => ∃ (i : Nat), k = ins.length - i ∧ i ≤ ins.length ∧ (ρ.get 1 = .slice ma model.length mc ∧ ρ.get 5 = hp g ∧ ρ.get 9 = hp q ∧ ρ.get 10 = cv ∧ ρ.get 12 = vv ∧ ρ.get 14 = .slice ia ins.length ic ∧ ρ.get 15 = iv i ∧ ρ.ds = []) ∧ Fr [] K2 K) (k := ins.length) ?_ ?_
            · exact ⟨0, rfl, by omega, by simp (disch := omega) only [go_sem, ↓cw_block, r1, r5, r8, r9, r10, r12, r13, rd], Fr.refl _ _⟩
            · clear r1 r5 r8 r9 r10 r12 r13 rd ρ
              rintro k ρ K3 ⟨i, rfl, hi, ⟨r1, r5, r9, r10, r12, r14, r15, rd⟩, fK3⟩
              have hi1 : (i : Int) + 1 = ((i + 1 : Nat) : Int) := by omega
              have FK3 := (FK.trans fK2).trans fK3
              have pq3 := (pq.frame fK2 (by simp)).frame fK3 (by simp)
              have hvv3 := (hvv.frame fK2 (by simp)).frame fK3 (by simp)
              by_cases hin : i < ins.length
              · have hii := hins ins[i] (List.getElem_mem hin)
                have hilt := (List.getElem?_eq_some_iff.1 hii.2).1
                have hleaf : ns.getD ins[i] (0, 0) = (0, 0) := by rw [List.getD_eq_getElem?_getD, hii.2]; rfl
                have hval : inO L (L.map (nv ns ins model)) ins[i] = (decide (ins[i] ∈ L) && bt model i) := by
                  unfold inO
                  by_cases hm : ins[i] ∈ L
                  · have hx := List.idxOf_lt_length_of_mem hm
                    rw [hrep.at' _ hx, List.getElem_idxOf, nv_leaf hleaf]
                    unfold inV
                    rw [List.Nodup.idxOf_getElem hnod i hin, decide_eq_true (List.getElem_mem hin), Bool.true_and]
                  · rw [decide_eq_false hm, Bool.false_and, Bool.false_and]
                obtain ⟨b7, o7, c7, e7, hc7⟩ := BV.at hiw (i := i) (by simpa using hin)
                simp only [Value.slice.injEq] at e7
                obtain ⟨rfl, _, rfl⟩ := e7
                have hbt : bt (ins.map (inO L (L.map (nv ns ins model)))) i = (decide (ins[i] ∈ L) && bt model i) := by
                  rw [← hval]; simp [bt, hin]
                rw [hbt] at hc7
                have hc8 := fK3.cell' hc7 (by simp)
                by_cases hm : i < model.length
                · obtain ⟨b9, o9, rfl, hc9⟩ := hma i hm
                  have hc9' := FK3.cell' hc9 (by simp)
                  cases hb : bt model i with
                  | false =>
                    rw [hb] at hc9' hc8
                    rw [Bool.and_false] at hc8
                    simp (disch := omega) only [go_sem, ↓cw_block, r1, r5, r9, r10, r12, r14, r15, rd, hc9', hc8]
                    exact fin ⟨ins.length - (i + 1), by omega, i + 1, rfl, by omega, by simp (disch := omega) only [go_sem, ↓cw_block, r1, r5, r9, r10, r12, r14, r15, rd, hi1], fK3⟩
                  | true =>
                    rw [hb] at hc9' hc8
                    rw [Bool.and_true] at hc8
                    simp (disch := omega) only [go_sem, ↓cw_block, r1, r5, r9, r10, r12, r14, r15, rd, hc9']
                    refine call_to (ginputs_spec pq3.gm.gr) ?_
                    rintro w9 K4 ⟨fK4, hw9, how9⟩
                    obtain ⟨b5, o5, c5, rfl, hc5⟩ := hw9.at (i := i) (by simpa using hin)
                    have en : nt (ins.map fun n => ((2 * n : Nat) : Int)) i = ((2 * ins[i] : Nat) : Int) := by unfold nt; simp [hin]
                    rw [en] at hc5
                    have e5 : ((2 * ins[i] : Nat) : Int) / 2 = ((ins[i] : Nat) : Int) := by omega
                    obtain ⟨lw4, cw4, Cq4, qm4, hBq4⟩ := (pq3.frame fK4 (by simp)).qr.qk
                    have hc8' := fK4.cell' hc8 (by simp)
                    have hlen9 : (ins.map fun n => ((2 * n : Nat) : Int)).length = ins.length := by simp
                    simp (disch := omega) only [go_sem, ↓cw_block, r1, r5, r9, r10, r12, r14, r15, rd, hlen9, hc5, e5]
                    refine call_to (qvar_spec qm4 (by simp only; omega)) ?_
                    rintro _ _ ⟨rfl, rfl⟩
                    simp only
                    by_cases hmL : ins[i] ∈ L
                    · have hv := varOf_pos hmL
                      rw [decide_eq_true hmL] at hc8'
                      simp (disch := omega) only [go_sem, ↓cw_block, r1, r5, r9, r10, r12, r14, r15, rd, hc8']
                      exact fin ⟨ins.length - (i + 1), by omega, i + 1, rfl, by omega, by simp (disch := omega) only [go_sem, ↓cw_block, r1, r5, r9, r10, r12, r14, r15, rd, hi1], fK3.trans fK4⟩
                    · rw [varOf_none hmL]
                      rw [decide_eq_false hmL] at hc8'
                      simp (disch := omega) only [go_sem, ↓cw_block, r1, r5, r9, r10, r12, r14, r15, rd, hc8']
                      exact fin ⟨ins.length - (i + 1), by omega, i + 1, rfl, by omega, by simp (disch := omega) only [go_sem, ↓cw_block, r1, r5, r9, r10, r12, r14, r15, rd, hi1], fK3.trans fK4⟩
                · have hb : bt model i = false := by unfold bt; rw [List.getD_eq_getElem?_getD, List.getElem?_eq_none (by omega)]; rfl
                  rw [hb, Bool.and_false] at hc8
                  simp (disch := omega) only [go_sem, ↓cw_block, r1, r5, r9, r10, r12, r14, r15, rd, hc8]
                  exact fin ⟨ins.length - (i + 1), by omega, i + 1, rfl, by omega, by simp (disch := omega) only [go_sem, ↓cw_block, r1, r5, r9, r10, r12, r14, r15, rd, hi1], fK3⟩
              · simp (disch := omega) only [go_sem, ↓cw_block, r1, r5, r9, r10, r12, r14, r15, rd]
                have hvol := hvv.lt
                refine loop_by (fun k ρ K => ∃ (i : Nat), k = L.length - i ∧ i ≤ L.length ∧ (ρ.get 5 = hp g ∧ ρ.get 9 = hp q ∧ ρ.get 10 = cv ∧ ρ.get 12 = vv ∧ ρ.get 14 = .slice ia ins.length ic ∧ ρ.get 17 = iv i ∧ ρ.ds = []) ∧
                  PQ H3 K g m q t lv Bg Bm Bq ns ins (L, []) (L, E) cv E C ∧ BV K 4 vv (L.map (nv ns ins model))) (k := L.length) ?_ ?_
                · exact ⟨0, rfl, by omega, by simp (disch := omega) only [go_sem, ↓cw_block, r1, r5, r9, r10, r12, r14, r15, rd], pq3, hvv3⟩
                · clear r1 r5 r9 r10 r12 r14 r15 rd ρ pq3 hvv3 FK3 fK3
                  rintro k ρ K4 ⟨i, rfl, hi, ⟨r5, r9, r10, r12, r14, r17, rd⟩, pq4, hvv4⟩
                  have hi1 : (i : Int) + 1 = ((i + 1 : Nat) : Int) := by omega
                  obtain ⟨lw4, cw4, Cq4, qm4, hBq4⟩ := pq4.qr.qk
                  have q1 : cellH K4 ⟨q, 1, none⟩ = some lw4 := qm4.self.cell 1
                  obtain ⟨la4, lc4, el4⟩ := qm4.vl.form
                  rw [List.length_map] at el4
                  subst el4
                  by_cases hin4 : i < L.length
                  · obtain ⟨bl, ol, cl', el, hcl⟩ := qm4.vl.at (i := i) (by simpa using hin4)
                    rw [nt_nat hin4] at hcl
                    simp only [Value.slice.injEq] at el
                    obtain ⟨rfl, _, rfl⟩ := el
                    have hrn := pq4.gm.rg L[i] (List.getElem_mem hin4)
                    obtain ⟨p, hp⟩ : ∃ p, ns[L[i]]? = some p := ⟨ns[L[i]], by simp [hrn]⟩
                    have hpd : ns.getD L[i] (0, 0) = p := by rw [List.getD_eq_getElem?_getD, hp]; rfl
                    obtain ⟨bv, ov, cp, ev, w5, hvv5, hc5⟩ := BV.put hvv4 (i := i) (by simpa using hin4) (!bt (L.map (nv ns ins model)) i)
                    subst ev
                    have f5 : Fr [bv] K4 (setH K4 ⟨bv, ov + i, none⟩ (.bool (!bt (L.map (nv ns ins model)) i))) := Fr.set (by simp)
                    have hvo' : ∀ b ∈ [bv], H3.size ≤ b ∧ b ∉ Bm ∧ b ∉ Bq ∧ b ∉ own cv ++ C := by
                      intro b hb; simp at hb; subst hb; exact hvo b (by simp [own])
                    have pq5 := pq4.frame f5 hvo'
                    obtain ⟨bv', ov', cp', ev', w6, hvv6, hc6⟩ := BV.put hvv5 (i := i) (by simpa using hin4) (bt (L.map (nv ns ins model)) i)
                    simp only [Value.slice.injEq, Option.some.injEq, Addr.mk.injEq] at ev'
                    obtain ⟨⟨rfl, rfl, _⟩, _, rfl⟩ := ev'
                    have back : ((L.map (nv ns ins model)).set i (!bt (L.map (nv ns ins model)) i)).set i (bt (L.map (nv ns ins model)) i) = L.map (nv ns ins model) := by
                      rw [List.set_set]
                      apply List.ext_getElem?
                      intro j
                      rw [List.getElem?_set]
                      split
                      · rename_i e
                        subst e
                        simp [hin4, bt]
                      · rfl
                    rw [back] at hvv6
                    rw [bt_set_eq (by simpa using hin4)] at hc6
                    have hff := one_fails hd ok (val := L.map (nv ns ins model)) (f := nv ns ins model) (by simp only; omega) hrep (i := i) hin4
                    simp only at hff
                    generalize hK5 : setH K4 ⟨bv, ov + i, none⟩ (.bool (!bt (L.map (nv ns ins model)) i)) = K5 at *
                    have f6 : Fr [bv] K5 (setH K5 ⟨bv, ov + i, none⟩ (.bool (bt (L.map (nv ns ins model)) i))) := Fr.set (by simp)
                    have pq6 := pq5.frame f6 hvo'
                    generalize hK6 : setH K5 ⟨bv, ov + i, none⟩ (.bool (bt (L.map (nv ns ins model)) i)) = K6 at *
                    have hvv5' := hvv5
                    rw [hva] at hvv5'
                    have len5 : ((L.map (nv ns ins model)).set i (!bt (L.map (nv ns ins model)) i)).length = L.length := by simp
                    simp (disch := omega) only [go_sem, ↓cw_block, r5, r9, r10, r12, r14, r17, rd, q1, hcl]
                    refine call_to (node_spec pq4.gm.gr hp) ?_
                    rintro _ _ ⟨rfl, rfl⟩
                    by_cases hz : p = (0, 0)
                    · rw [if_pos hz]
                      by_cases h0 : i = 0
                      · have hL0 : L[i] = 0 := by
                          subst h0
                          have h := ok.v0
                          have hm := ok.z
                          simp only at h hm
                          unfold varOf at h
                          rw [if_pos hm] at h
                          have e0 : L.idxOf 0 = 0 := by omega
                          have := List.getElem_idxOf (List.idxOf_lt_length_of_mem hm)
                          simpa [e0] using this
                        have hfalse := hff (.inr ⟨hL0, h00⟩) hnv
                        have ei : (i : Int) = 0 := by omega
                        simp (disch := omega) only [go_sem, ↓cw_block, r5, r9, r10, r12, r14, r17, rd, q1, hcl, hva, hc5, w5, decide_eq_true ei]
                        refine call_to (all_spec (val := (L.map (nv ns ins model)).set i (!bt (L.map (nv ns ins model)) i)) (CR.of_CVec pq5.cvk) (BR.of_BV hvv5') (by omega) (by omega) ok.len) ?_
                        rintro _ _ ⟨rfl, rfl⟩
                        rw [hfalse]
                        simp (disch := omega) only [go_sem, ↓cw_block, r5, r9, r10, r12, r14, r17, rd, hva, hc6, w6, Bool.not_not, decide_eq_true ei]
                        exact fin ⟨L.length - (i + 1), by omega, i + 1, rfl, by omega, by simp (disch := omega) only [go_sem, ↓cw_block, r5, r9, r10, r12, r14, r17, rd, hi1], pq6, hvv6⟩
                      · have ei : ¬ (i : Int) = 0 := by omega
                        simp (disch := omega) only [go_sem, ↓cw_block, r5, r9, r10, r12, r14, r17, rd, q1, hcl, hva, hc5, w5, decide_eq_false ei, hc6, w6, Bool.not_not]
                        exact fin ⟨L.length - (i + 1), by omega, i + 1, rfl, by omega, by simp (disch := omega) only [go_sem, ↓cw_block, r5, r9, r10, r12, r14, r17, rd, hi1], pq6, hvv6⟩
                    · rw [if_neg hz]
                      have hfalse := hff (.inl (by rw [hpd]; exact hz)) hnv
                      simp (disch := omega) only [go_sem, ↓cw_block, r5, r9, r10, r12, r14, r17, rd, q1, hcl, hva, hc5, w5]
                      refine call_to (all_spec (val := (L.map (nv ns ins model)).set i (!bt (L.map (nv ns ins model)) i)) (CR.of_CVec pq5.cvk) (BR.of_BV hvv5') (by omega) (by omega) ok.len) ?_
                      rintro _ _ ⟨rfl, rfl⟩
                      rw [hfalse]
                      simp (disch := omega) only [go_sem, ↓cw_block, r5, r9, r10, r12, r14, r17, rd, hva, hc6, w6, Bool.not_not]
                      exact fin ⟨L.length - (i + 1), by omega, i + 1, rfl, by omega, by simp (disch := omega) only [go_sem, ↓cw_block, r5, r9, r10, r12, r14, r17, rd, hi1], pq6, hvv6⟩
                  · simp (disch := omega) only [go_sem, ↓cw_block, r5, r9, r10, r12, r14, r17, rd, q1]
                    refine call_to (ginputs_spec pq4.gm.gr) ?_
                    rintro w9 K5 ⟨fK5, hw9, how9⟩
                    obtain ⟨a9, c9, e9⟩ := hw9.form
                    rw [List.length_map] at e9
                    subst e9
                    simp (disch := omega) only [go_sem, ↓cw_block, r5, r9, r10, r12, r14, r17, rd, dsB_of]
                    exact fin ⟨by simp, (F3.trans pq4.fr).trans fK5⟩
end
end Go.Proofs.Ytplcehlonfhooaa
