/- The law that what is asked again has the same literal: that it returns true. -/
import Derived.Test.YtplcehlonfhooaaCnfR
import Derived.Test.YtplcehlonfhooaaArg
namespace Go.Proofs.Ytplcehlonfhooaa
open Go.HL
set_option maxRecDepth 10000
set_option linter.unusedSimpArgs false

theorem litM_nx {L : List Nat} {e : Nat} : litM L (nx e) = - litM L e := by
  have h1 : nx e / 2 = e / 2 := by unfold nx; split <;> omega
  unfold litM
  rw [h1]
  by_cases h : e % 2 = 1
  · have : ¬ nx e % 2 = 1 := by unfold nx; split <;> omega
    rw [if_pos h, if_neg this]; omega
  · have : nx e % 2 = 1 := by unfold nx; split <;> omega
    rw [if_neg h, if_pos this]
theorem litM_append {L t : List Nat} {e : Nat} (h : e / 2 ∈ L) : litM (L ++ t) e = litM L e := by
  unfold litM; rw [varOf_append h]
theorem ownM_of {ns : List Pr} {e : Nat} (h : e < 2 * ns.length) : ownM ns (e : Int) = e := by
  unfold ownM; rw [if_pos (by omega)]; simp
theorem nt_append_eq {xs : List Int} {y : Int} {i : Nat} (h : xs.length = i) : nt (xs ++ [y]) i = y := by subst h; exact nt_append_right
section
variable {H : Heap}
set_option maxHeartbeats 1000000 in
theorem once_spec {v0 v1 : Value} {rows : List (Int × Int × Int)} {zs : List Int} (hv : ArgActs H v0 rows) (hz : ArgInts H .u8 v1 zs) (hzr : ∀ i, i < zs.length → 0 ≤ nt zs i ∧ nt zs i ≤ 255) :
    CallF Try.prog 3 [v0, v1] H (fun r H' => r = .bool true ∧ Fr [] H H') NoP := by
  have hv' := hv
  obtain ⟨a, c, rfl, hat⟩ := hv'
  obtain ⟨a1, c1, rfl, hat1⟩ := argCells hz
  refine callF_of Try.func3 rfl Try.ntmps3 Try.results3 (by decide) rfl ?_
  by_cases hbig : 25 < rows.length ∨ 20 < zs.length
  · simp (disch := omega) only [go_sem, ↓cw_block]
    refine call_to awake_spec ?_
    rintro _ H1 ⟨rfl, f1⟩
    by_cases h0 : 25 < rows.length
    · simp (disch := omega) only [go_sem, ↓cw_block]
      refine call_to awake_spec ?_
      rintro _ H2 ⟨rfl, f2⟩
      simp (disch := omega) only [go_sem, ↓cw_block]
      exact fin ⟨rfl, f1.trans f2⟩
    · simp (disch := omega) only [go_sem, ↓cw_block]
      refine call_to awake_spec ?_
      rintro _ H2 ⟨rfl, f2⟩
      simp (disch := omega) only [go_sem, ↓cw_block]
      exact fin ⟨rfl, f1.trans f2⟩
  · simp (disch := omega) only [go_sem, ↓cw_block]
    refine call_to awake_spec ?_
    rintro _ H1 ⟨rfl, f1⟩
    have hv1 : ArgActs H1 (.slice a rows.length c) rows := by
      refine ⟨a, c, rfl, fun i x hx => ?_⟩
      obtain ⟨⟨b, o, e1, e2, e3, e4⟩, h5⟩ := hat i x hx
      exact ⟨⟨b, o, e1, f1.cell' e2 (by simp), f1.cell' e3 (by simp), f1.cell' e4 (by simp)⟩, h5⟩
    simp (disch := omega) only [go_sem, ↓cw_block]
    refine call_to (made_spec hv1 (by omega)) ?_
    rintro _ H2 ⟨g, Bg, ns, ins, w, es, rfl, ge, hes, hns⟩
    have F2 : Fr [] H H2 := f1.trans ge.fr
    have hs1 := f1.size
    simp (disch := omega) only [go_sem, ↓cw_block]
    refine call_to cnew_spec ?_
    rintro _ H3 ⟨f3, m, B3, rfl, k3, m3⟩
    have hw3 := ge.iv.frame f3 (by simp)
    have hwl := ge.iv.lt
    have hgl := ge.gr.lt
    have F3 := F2.trans f3
    have hpos := ge.gr.w.1
    have hd : Dn ns := ge.gr.w.2.2.1
    have gm3 : GMk H3 g m Bg B3 ns ins ([0], [[-1]]) := ⟨ge.gr.frame f3 (by simp), k3, fun b hb e => by have := hgl b hb; have := m3 b e; omega, by simp, by simpa using hpos, by simp⟩
    obtain ⟨wa, wc, hwf⟩ := ge.iv.form
    rw [List.length_map] at hwf
    subst hwf
    have how : ∀ b ∈ own (Value.slice wa es.length wc), H.size ≤ b ∧ b ∉ Bg ∧ b < H2.size := fun b hb => ⟨by have := (ge.fw b hb).1; omega, (ge.fw b hb).2, hwl b hb⟩
    simp (disch := omega) only [go_sem, ↓cw_block]
    refine loop_by (fun k ρ H4 => ∃ (i n : Nat) (s : MS) (B : List Nat) (wl : Value) (ls : List Int), k = es.length - i ∧ i ≤ es.length ∧ (ρ.get 1 = .slice a1 zs.length c1 ∧ ρ.get 6 = .slice wa es.length wc ∧ ρ.get 7 = hp m ∧ ρ.get 8 = wl ∧ ρ.get 9 = iv n ∧ ρ.get 10 = iv i ∧ ρ.ds = []) ∧
      GMk H4 g m Bg B ns ins s ∧ Fr [] H H4 ∧ (∀ b ∈ B, H.size ≤ b ∧ b ∉ own (Value.slice wa es.length wc)) ∧ IV H4 3 (.slice wa es.length wc) (es.map Int.ofNat) ∧ IV H4 3 wl ls ∧ (∀ b ∈ own wl, H.size ≤ b ∧ b ∉ B ∧ b ∉ Bg ∧ b ∉ own (Value.slice wa es.length wc)) ∧
      ls.length = i ∧ (∀ j (h : j < es.length), j < i → nt ls j = litM s.1 es[j] ∧ es[j] / 2 ∈ s.1) ∧ (n + s.2.length) % 3 = 1 ∧ n + s.2.length ≤ 1 + 3 * s.1.length ∧ (0 < i → s.2 = [])) (k := es.length) ?_ ?_
    · exact ⟨0, 0, ([0], [[-1]]), B3, .slice none 0 0, [], rfl, by omega, by simp (disch := omega) only [go_sem, ↓cw_block], gm3, F3, fun b hb => ⟨by have := m3 b hb; have := F2.size; omega, fun e => by have := hwl b e; have := m3 b hb; omega⟩, hw3, Vec.nil, by simp [own], rfl, by intro j _ h; omega, rfl, by simp, by omega⟩
    · rintro k ρ H4 ⟨i, n, s, B, wl, ls, rfl, hi, ⟨r1, r6, r7, r8, r9, r10, rd⟩, gm, F4, hB, hw, hwlv, hwo, hll, hls, hmod, hcnt, hempty⟩
      have hi1 : (i : Int) + 1 = ((i + 1 : Nat) : Int) := by omega
      have hslen := gm.len
      by_cases hin : i < es.length
      · obtain ⟨bw, ow, cw', ew, hcw⟩ := hw.at (i := i) (by simpa using hin)
        rw [nt_nat hin] at hcw
        simp only [Value.slice.injEq] at ew
        obtain ⟨rfl, _, rfl⟩ := ew
        have hei := ge.ed es[i] (List.getElem_mem hin)
        simp (disch := omega) only [go_sem, ↓cw_block, r1, r6, r7, r8, r9, r10, rd, hcw]
        refine call_to (Lit_spec gm (by omega)) ?_
        rw [ownM_of hei]
        rintro _ H5 ⟨rfl, f5, B5, gm5, g5⟩
        obtain ⟨t, t1, t2, t3, t4, kk, t5, t6⟩ := needM_list hd (es[i] / 2) s
        have F5 := fr_new' F4 f5 (fun b hb => (hB b hb).1)
        have hB5 : ∀ b ∈ B5, H.size ≤ b ∧ b ∉ own (Value.slice (some ⟨bw, ow, none⟩) es.length wc) := by
          intro b hb
          rcases g5 b hb with h | h
          · exact hB b h
          · exact ⟨by have := F4.size; omega, fun e => by have := hw.lt b e; omega⟩
        have hw5 := hw.frame f5 (fun b hb e => (hB b e).2 hb)
        have hwl5 := hwlv.frame f5 (fun b hb => (hwo b hb).2.1)
        have hwo5 : ∀ b ∈ own wl, b ∉ B5 := fun b hb e => (g5 b e).elim (hwo b hb).2.1 (fun h => by have := hwlv.lt b hb; omega)
        simp (disch := omega) only [go_sem, ↓cw_block, r1, r6, r7, r8, r9, r10, rd]
        refine app_lit1 T.el26 rfl hwl5 rfl (by simp; omega) ?_
        rintro w6 H6 k1 k2 k3 _
        have F6 := fr_new' F5 k2 (fun b hb => (hwo b hb).1)
        have gm6 := gm5.frame k2 (fun b hb e => (hwo b e).2.2.1 hb) (fun b hb e => hwo5 b e hb)
        have hw6 := hw5.frame k2 (fun b hb e => (hwo b e).2.2.2 hb)
        have hs5 := f5.size
        have hg5 := gm5.gr.lt
        have hb5 := gm5.mkr.lt
        have hwo6 : ∀ b ∈ own w6, H.size ≤ b ∧ b ∉ B5 ∧ b ∉ Bg ∧ b ∉ own (Value.slice (some ⟨bw, ow, none⟩) es.length wc) := by
          intro b hb
          rcases k3 b hb with h | h
          · exact ⟨(hwo b h).1, hwo5 b h, (hwo b h).2.2.1, (hwo b h).2.2.2⟩
          · exact ⟨by have := F5.size; omega, fun e => by have := hb5 b e; omega, fun e => by have := hg5 b e; omega, fun e => by have := hw5.lt b e; omega⟩
        simp (disch := omega) only [go_sem, ↓cw_block, r1, r6, r7, r8, r9, r10, rd]
        refine call_to (take_spec gm6.mkr) ?_
        rintro cv H7 ⟨C, cv7, c7, f7, B7, mk7, b7, n7⟩
        obtain ⟨a7, cc7, rfl⟩ := cv7.form
        have F7 := fr_new' F6 f7 (fun b hb => (hB5 b hb).1)
        have hlen5 := gm5.len
        have e9 : (n : Int) + ((needM ns (es[i] / 2) s).2.length : Int) = ((n + (needM ns (es[i] / 2) s).2.length : Nat) : Int) := by omega
        have hnl : n + (needM ns (es[i] / 2) s).2.length ≤ 1 + 3 * (needM ns (es[i] / 2) s).1.length := by rw [t6, t1, List.length_append]; omega
        have hbg := gm.big
        simp (disch := omega) only [go_sem, ↓cw_block, r1, r6, r7, r8, r9, r10, rd]
        refine fin ⟨es.length - (i + 1), by omega, i + 1, n + (needM ns (es[i] / 2) s).2.length, ((needM ns (es[i] / 2) s).1, []), B7, w6, ls ++ [litM (needM ns (es[i] / 2) s).1 es[i]], rfl, by omega, by simp (disch := omega) only [go_sem, ↓cw_block, r1, r6, r7, r8, r9, r10, rd, hi1, e9], ?_, F7, fun b hb => hB5 b (b7 b hb), ?_, ?_, ?_, by simp [hll], ?_, ?_, ?_, fun _ => rfl⟩
        · exact ⟨gm6.gr.frame f7 gm6.dis, mk7, fun b hb e => gm6.dis b hb (b7 b e), gm5.nd, gm5.rg, by simp⟩
        · exact hw6.frame f7 (fun b hb e => (hB5 b e).2 hb)
        · have : IV H6 3 w6 (ls ++ [litM (needM ns (es[i] / 2) s).1 es[i]]) := by unfold IV; rw [List.map_append]; exact k1
          exact this.frame f7 (fun b hb => (hwo6 b hb).2.1)
        · exact fun b hb => ⟨(hwo6 b hb).1, fun e => (hwo6 b hb).2.1 (b7 b e), (hwo6 b hb).2.2⟩
        · intro j hj hji
          rcases Nat.lt_or_ge j i with h | h
          · obtain ⟨p1, p2⟩ := hls j hj h
            rw [nt_append_left (by omega), p1]
            simp only [t1]
            exact ⟨(litM_append p2).symm, by simp [p2]⟩
          · have : j = i := by omega
            subst this
            exact ⟨nt_append_eq hll, t2⟩
        · simp only [List.length_nil]; rw [t6]; omega
        · simpa using hnl
      · have : i = es.length := by omega
        subst this
        have hs0 := hempty (by omega)
        rw [hs0] at hmod hcnt
        simp only [List.length_nil, Nat.add_zero] at hmod hcnt
        obtain ⟨la, lc, hwlf⟩ := hwlv.form
        rw [hll] at hwlf
        subst hwlf
        have hbg := gm.big
        simp (disch := omega) only [go_sem, ↓cw_block, r1, r6, r7, r8, r9, r10, rd]
        refine call_to (vars_spec gm.mkr) ?_
        rintro _ _ ⟨rfl, rfl⟩
        simp (disch := omega) only [go_sem, ↓cw_block, r1, r6, r7, r8, r9, r10, rd]
        refine loop_by (fun k ρ H5 => ∃ (i : Nat) (B : List Nat), k = zs.length - i ∧ i ≤ zs.length ∧ (ρ.get 1 = .slice a1 zs.length c1 ∧ ρ.get 6 = .slice wa es.length wc ∧ ρ.get 7 = hp m ∧ ρ.get 8 = .slice la es.length lc ∧ ρ.get 9 = iv n ∧ ρ.get 11 = iv s.1.length ∧ ρ.get 12 = iv i ∧ ρ.ds = []) ∧
          GMk H5 g m Bg B ns ins s ∧ Fr [] H H5 ∧ (∀ b ∈ B, H.size ≤ b ∧ b ∉ own (Value.slice wa es.length wc) ∧ b ∉ own (Value.slice la es.length lc)) ∧ IV H5 3 (.slice wa es.length wc) (es.map Int.ofNat) ∧ IV H5 3 (.slice la es.length lc) ls) (k := zs.length) ?_ ?_
        · exact ⟨0, B, rfl, by omega, by simp (disch := omega) only [go_sem, ↓cw_block, r1, r6, r7, r8, r9, r10, rd], gm, F4, fun b hb => ⟨(hB b hb).1, (hB b hb).2, fun e => (hwo b e).2.1 hb⟩, hw, hwlv⟩
        · clear hw hwlv hB hwo
          rintro k ρ5 H5 ⟨i, B5, rfl, hi5, ⟨x1, x6, x7, x8, x9, x11, x12, xd⟩, gm5, F5, hB5, hw5, hl5⟩
          have hi1' : (i : Int) + 1 = ((i + 1 : Nat) : Int) := by omega
          by_cases hin5 : i < zs.length
          · obtain ⟨b1, o1, rfl, hc1⟩ := hat1 i hin5
            have hc1' := F5.cell' hc1 (by simp)
            have hzi := hzr i hin5
            have hr0 := Int.emod_nonneg (nt zs i) (b := (es.length : Int)) (by omega)
            have hr1 := Int.emod_lt_of_pos (nt zs i) (b := (es.length : Int)) (by omega)
            obtain ⟨q, hq⟩ : ∃ q : Nat, nt zs i % (es.length : Int) = (q : Int) := ⟨(nt zs i % (es.length : Int)).toNat, by omega⟩
            have hql : q < es.length := by omega
            have heq := ge.ed es[q] (List.getElem_mem hql)
            obtain ⟨p1, p2⟩ := hls q hql hql
            obtain ⟨bw, ow, cw', ew, hcw⟩ := hw5.at (i := q) (by simpa using hql)
            rw [nt_nat hql] at hcw
            simp only [Value.slice.injEq] at ew
            obtain ⟨rfl, _, rfl⟩ := ew
            obtain ⟨bl, ol, cl', el, hcl⟩ := hl5.at (i := q) (by omega)
            simp only [Value.slice.injEq] at el
            obtain ⟨rfl, _, rfl⟩ := el
            rw [p1] at hcl
            have hlr := litM_rng (L := s.1) (e := es[q])
            have oe := ownM_of heq
            have on := ownM_of (nx_lt heq)
            have id1 : needM ns (es[q] / 2) s = s := needM_named p2
            have id2 : needM ns (nx es[q] / 2) s = s := needM_named (by have : nx es[q] / 2 = es[q] / 2 := by unfold nx; split <;> omega
                                                                        rw [this]; exact p2)
            have nlt := nx_lt heq
            simp (disch := omega) only [go_sem, ↓cw_block, x1, x6, x7, x8, x9, x11, x12, xd, hc1', hq]
            refine draw1 (lk [(0, true), (1, true), (2, true), (3, true), (4, true), (6, false), (7, false), (8, false), (9, false)] (.act 5 (lk [(10, true), (11, true), (12, false), (13, true), (14, true), (15, true), (16, true), (19, false), (20, false), (21, false), (22, false), (23, false)] (.act 17 (.act 18 (lk [(24, true), (25, true)] .fin) .non) .non)) .non)) T.mixed [(⟨bl, ol + q, none⟩, iv (litM s.1 es[q]))] (heldOK_one hcl) ?_
            simp (disch := omega) only [go_sem, ↓cw_block, x1, x6, x7, x8, x9, x11, x12, xd, hcw]
            refine call_to (Lit_spec gm5 (by omega)) ?_
            rw [oe, id1]
            rintro _ H6 ⟨rfl, f6, B6, gm6, g6⟩
            have hcl6 := f6.cell' hcl (fun e => (hB5 bl e).2.2 (by simp [own]))
            have hcw6 := f6.cell' hcw (fun e => (hB5 bw e).2.1 (by simp [own]))
            have F6 := fr_new' F5 f6 (fun b hb => (hB5 b hb).1)
            have hB6 : ∀ b ∈ B6, H.size ≤ b ∧ b ∉ own (Value.slice (some ⟨bw, ow, none⟩) es.length wc) ∧ b ∉ own (Value.slice (some ⟨bl, ol, none⟩) es.length lc) := by
              intro b hb
              rcases g6 b hb with h | h
              · exact hB5 b h
              · exact ⟨by have := F5.size; omega, fun e => by have := hw5.lt b e; omega, fun e => by have := hl5.lt b e; omega⟩
            refine held_by (heldOK_one hcl6) ?_
            simp (disch := omega) only [go_sem, ↓cw_block, x1, x6, x7, x8, x9, x11, x12, xd, hcw6]
            refine call_to (not_spec (by omega)) ?_
            rintro _ _ ⟨rfl, rfl⟩
            refine held_by (heldOK_one hcl6) ?_
            simp (disch := omega) only [go_sem, ↓cw_block, x1, x6, x7, x8, x9, x11, x12, xd]
            refine call_to (Lit_spec gm6 (by omega)) ?_
            rw [on, id2, litM_nx]
            rintro _ H7 ⟨rfl, f7, B7, gm7, g7⟩
            have hcl7 := f7.cell' hcl6 (fun e => (hB6 bl e).2.2 (by simp [own]))
            have F7 := fr_new' F6 f7 (fun b hb => (hB6 b hb).1)
            have hw7 := (hw5.frame f6 (fun b hb e => (hB5 b e).2.1 hb)).frame f7 (fun b hb e => (hB6 b e).2.1 hb)
            have hl7 := (hl5.frame f6 (fun b hb e => (hB5 b e).2.2 hb)).frame f7 (fun b hb e => (hB6 b e).2.2 hb)
            have hB7 : ∀ b ∈ B7, H.size ≤ b ∧ b ∉ own (Value.slice (some ⟨bw, ow, none⟩) es.length wc) ∧ b ∉ own (Value.slice (some ⟨bl, ol, none⟩) es.length lc) := by
              intro b hb
              rcases g7 b hb with h | h
              · exact hB6 b h
              · have := f6.size
                exact ⟨by have := F6.size; omega, fun e => by have := hw5.lt b e; omega, fun e => by have := hl5.lt b e; omega⟩
            refine held_by (heldOK_one hcl7) ?_
            simp (disch := omega) only [go_sem, ↓cw_block, x1, x6, x7, x8, x9, x11, x12, xd]
            exact fin ⟨zs.length - (i + 1), by omega, i + 1, B7, rfl, by omega, by simp (disch := omega) only [go_sem, ↓cw_block, x1, x6, x7, x8, x9, x11, x12, xd, hi1'], gm7, F7, hB7, hw7, hl7⟩
          · simp (disch := omega) only [go_sem, ↓cw_block, x1, x6, x7, x8, x9, x11, x12, xd]
            refine call_to (take_spec gm5.mkr) ?_
            rintro cv H6 ⟨C, cv6, c6, f6, B6, mk6, b6, n6⟩
            rw [hs0] at cv6
            obtain ⟨a6, cc6, rfl⟩ := cv6.form
            simp (disch := omega) only [go_sem, ↓cw_block, x1, x6, x7, x8, x9, x11, x12, xd, List.length_nil]
            refine call_to (vars_spec mk6) ?_
            rintro _ _ ⟨rfl, rfl⟩
            have e3 : (n : Int) % 3 = 1 := by omega
            simp (disch := omega) only [go_sem, ↓cw_block, x1, x6, x7, x8, x9, x11, x12, xd, List.length_nil, e3, dsB_of]
            exact fin ⟨by simp, fr_new' F5 f6 (fun b hb => (hB5 b hb).1)⟩
end
end Go.Proofs.Ytplcehlonfhooaa
