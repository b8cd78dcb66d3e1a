/- The law on a graph that grows: that it returns true. -/
import Derived.Test.YtplcehlonfhooaaCnfS
namespace Go.Proofs.Ytplcehlonfhooaa
open Go.HL
set_option maxRecDepth 10000
set_option linter.unusedSimpArgs false

theorem GMk.graph {H H2 : Heap} {g m k : Nat} {Bg B B2 : List Nat} {ns ns2 : List Pr} {ins : List Nat} {s : MS} (h : GMk H g m Bg B ns ins s) (h2 : Gr H2 g B2 ns2 ins) (f2 : Fr Bg H H2) (g2 : Grow Bg B2 H) (hp : Pre ns ns2 k) : GMk H2 g m B2 B ns2 ins s := by
  have hbl := h.mkr.lt
  exact ⟨h2, h.mkr.frame f2 (fun b hb e => h.dis b e hb), fun b hb e => (g2 b hb).elim (fun q => h.dis b q e) (fun q => by have := hbl b e; omega), h.nd, fun x hx => by have := h.rg x hx; have := hp.len; omega, h.cs⟩
theorem GE.frame {H0 H H' : Heap} {g : Nat} {Bg F : List Nat} {ns : List Pr} {ins : List Nat} {w : Value} {es : List Nat} (h : GE H0 H g Bg ns ins w es) (hf : Fr F H H') (h1 : ∀ b ∈ Bg, b ∉ F) (h2 : ∀ b ∈ own w, b ∉ F) (h3 : ∀ b ∈ F, H0.size ≤ b) : GE H0 H' g Bg ns ins w es :=
  ⟨h.gr.frame hf h1, fr_new' h.fr hf h3, h.fg, h.iv.frame hf h2, h.fw, h.ed⟩
theorem litM_in {L : List Nat} {e : Nat} (h : e / 2 ∈ L) : litM L e ≠ 0 ∧ -(L.length : Int) ≤ litM L e ∧ litM L e ≤ L.length := by
  have := varOf_pos h
  unfold litM
  split <;> omega
section
variable {H : Heap}
set_option maxHeartbeats 1000000 in
theorem grows_spec {v0 v1 : Value} {rows more : List (Int × Int × Int)} (hv : ArgActs H v0 rows) (hz : ArgActs H v1 more) :
    CallF Try.prog 4 [v0, v1] H (fun r H' => r = .bool true ∧ Fr [] H H') NoP := by
  obtain ⟨a, c, rfl, hat⟩ := hv
  obtain ⟨a1, c1, rfl, hat1⟩ := hz
  refine callF_of Try.func4 rfl Try.ntmps4 Try.results4 (by decide) rfl ?_
  by_cases hbig : 15 < rows.length ∨ 15 < more.length
  · simp (disch := omega) only [go_sem, ↓cw_block]
    refine call_to awake_spec ?_
    rintro _ H1 ⟨rfl, f1⟩
    by_cases h0 : 15 < rows.length
    · simp (disch := omega) only [go_sem, ↓cw_block]
      refine call_to awake_spec ?_
      rintro _ H2 ⟨rfl, f2⟩
      simp (disch := omega) only [go_sem, ↓cw_block]
      exact fin ⟨rfl, f1.trans f2⟩
    · simp (disch := omega) only [go_sem, ↓cw_block]
      refine call_to awake_spec ?_
      rintro _ H2 ⟨rfl, f2⟩
      simp (disch := omega) only [go_sem, ↓cw_block]
      exact fin ⟨rfl, f1.trans f2⟩
  · simp (disch := omega) only [go_sem, ↓cw_block]
    refine call_to awake_spec ?_
    rintro _ H1 ⟨rfl, f1⟩
    have hv1 : ArgActs H1 (.slice a rows.length c) rows := by
      refine ⟨a, c, rfl, fun i x hx => ?_⟩
      obtain ⟨⟨b, o, e1, e2, e3, e4⟩, h5⟩ := hat i x hx
      exact ⟨⟨b, o, e1, f1.cell' e2 (by simp), f1.cell' e3 (by simp), f1.cell' e4 (by simp)⟩, h5⟩
    simp (disch := omega) only [go_sem, ↓cw_block]
    refine call_to (made_spec hv1 (by omega)) ?_
    rintro _ H2 ⟨g, Bg, ns, ins, w, es, rfl, ge, hes, hns⟩
    simp (disch := omega) only [go_sem, ↓cw_block]
    refine call_to cnew_spec ?_
    rintro _ H3 ⟨f3, m, B3, rfl, k3, m3⟩
    have hwl := ge.iv.lt
    have hgl := ge.gr.lt
    have hpos := ge.gr.w.1
    have ge3 := ge.frame f3 (by simp) (by simp) (by simp)
    have hs2 := ge.fr.size
    have gm3 : GMk H3 g m Bg B3 ns ins ([0], [[-1]]) := ⟨ge.gr.frame f3 (by simp), k3, fun b hb e => by have := hgl b hb; have := m3 b e; omega, by simp, by simpa using hpos, by simp⟩
    have hel : es.length - 1 < es.length := by omega
    obtain ⟨bw, ow, cw', ew, hcw⟩ := ge3.iv.at (i := es.length - 1) (by simpa using hel)
    rw [nt_nat hel] at hcw
    rw [List.length_map] at ew
    subst ew
    have hei := ge.ed es[es.length - 1] (List.getElem_mem hel)
    generalize es[es.length - 1] = e0 at hcw hei
    have el1 : (es.length : Int) - 1 = ((es.length - 1 : Nat) : Int) := by omega
    simp (disch := omega) only [go_sem, ↓cw_block, el1, hcw]
    refine call_to (Lit_spec gm3 (by omega)) ?_
    rw [ownM_of hei]
    rintro _ H4 ⟨rfl, f4, B4, gm4, g4⟩
    have hd : Dn ns := ge.gr.w.2.2.1
    obtain ⟨t0, t1, t2, _⟩ := needM_list hd (e0 / 2) ([0], [[-1]])
    have ge4 := ge3.frame f4 gm3.dis (fun b hb e => by have := hwl b hb; have := m3 b e; omega) (fun b hb => by have := m3 b hb; omega)
    have hB4 : ∀ b ∈ B4, H1.size ≤ b ∧ b ∉ own (Value.slice (some ⟨bw, ow, none⟩) es.length cw') := by
      intro b hb
      have hs3 := f3.size
      rcases g4 b hb with h | h
      · exact ⟨by have := m3 b h; omega, fun e => by have := hwl b e; have := m3 b h; omega⟩
      · exact ⟨by omega, fun e => by have := hwl b e; omega⟩
    generalize needM ns (e0 / 2) ([0], [[-1]]) = s4 at gm4 t1 t2
    have hl4 := gm4.len
    have hbg := gm4.big
    simp (disch := omega) only [go_sem, ↓cw_block]
    refine call_to (vars_spec gm4.mkr) ?_
    rintro _ _ ⟨rfl, rfl⟩
    simp (disch := omega) only [go_sem, ↓cw_block]
    refine loop_by (fun k ρ H5 => ∃ (i : Nat) (Bg B : List Nat) (ns : List Pr) (ins : List Nat) (w : Value) (es : List Nat) (s : MS), k = more.length - i ∧ i ≤ more.length ∧ (ρ.get 1 = .slice a1 more.length c1 ∧ ρ.get 5 = hp g ∧ ρ.get 6 = w ∧ ρ.get 7 = hp m ∧ ρ.get 8 = iv e0 ∧ ρ.get 9 = iv (litM s4.1 e0) ∧ ρ.get 10 = iv s4.1.length ∧ ρ.get 11 = iv i ∧ ρ.ds = []) ∧
      GE H1 H5 g Bg ns ins w es ∧ GMk H5 g m Bg B ns ins s ∧ (∀ b ∈ B, H1.size ≤ b ∧ b ∉ own w) ∧ e0 / 2 ∈ s.1 ∧ litM s.1 e0 = litM s4.1 e0 ∧ s4.1.length ≤ s.1.length ∧ es.length = rows.length + 4 + i ∧ ns.length ≤ 4 + 3 * rows.length + i ∧ e0 < 2 * ns.length) (k := more.length) ?_ ?_
    · exact ⟨0, Bg, B4, ns, ins, _, es, s4, rfl, by omega, by simp (disch := omega) only [go_sem, ↓cw_block], ge4, gm4, hB4, t2, rfl, Nat.le_refl _, by omega, by omega, hei⟩
    · clear ge ge3 ge4 gm3 gm4 hB4 hgl hwl hcw f4 g4 k3 m3 hpos hel el1 hes hns hei hl4 hd t1 t2
      rintro k ρ H5 ⟨i, Bg, B, ns, ins, w, es, s, rfl, hi, ⟨r1, r5, r6, r7, r8, r9, r10, r11, rd⟩, ge, gm, hB, hin0, hlit, hvars, hes, hns, hei⟩
      have hi1 : (i : Int) + 1 = ((i + 1 : Nat) : Int) := by omega
      by_cases hin : i < more.length
      · obtain ⟨⟨b, o, rfl, k0, k1, k2⟩, hb1, hb2⟩ := hat1 i _ (List.getElem?_eq_getElem hin)
        generalize more[i] = x at k0 k1 k2 hb1 hb2
        obtain ⟨xk, xa, xb⟩ := x
        simp only at k0 k1 k2 hb1 hb2
        have FH : Fr [] H H5 := f1.trans ge.fr
        have m1 := FH.cell' k1 (by simp)
        have m2 := FH.cell' k2 (by simp)
        have hbl := cell_lt k2
        have hbs : b ∉ Bg := fun e => by have := ge.fg b e; have := f1.size; simp at hbl; omega
        have hwl := ge.iv.lt
        have hgl := ge.gr.lt
        have hml := gm.mkr.lt
        simp (disch := omega) only [go_sem, ↓cw_block, r1, r5, r6, r7, r8, r9, r10, r11, rd]
        refine draw1 (lk [(0, false), (1, false), (2, true), (3, true), (4, true), (5, true), (6, true), (7, true), (9, false), (10, false), (11, false), (12, false), (13, false), (14, false)] (.act 8 (.act 15 (.act 16 (.act 17 (.actd 18 (lk [(19, true)] .fin)) .non) .non) .non) .non)) T.mixed [(⟨b, o + i * 4 + 2, none⟩, iv xb)] (heldOK_one m2) ?_
        simp (disch := omega) only [go_sem, ↓cw_block, r1, r5, r6, r7, r8, r9, r10, r11, rd, m1, m2]
        refine call_to (at_spec ge.iv (by omega) (by omega) (N := ns.length) (by omega) ge.ed hb1) ?_
        rintro _ _ ⟨rfl, ea, rfl, hea⟩
        refine held_by (heldOK_one m2) ?_
        simp (disch := omega) only [go_sem, ↓cw_block, r1, r5, r6, r7, r8, r9, r10, r11, rd, m1, m2]
        refine call_to (at_spec ge.iv (by omega) (by omega) (N := ns.length) (by omega) ge.ed hb2) ?_
        rintro _ _ ⟨rfl, eb, rfl, heb⟩
        refine held_by (heldOK_one m2) ?_
        simp (disch := omega) only [go_sem, ↓cw_block, r1, r5, r6, r7, r8, r9, r10, r11, rd, m1, m2]
        refine call_to (and_spec' ge.gr (by omega) (by omega) (by omega)) ?_
        rintro _ H6 ⟨e6, ns6, rfl, he6, hp6, B6, h6, f6, g6⟩
        have l6 := hp6.len
        have m26 := f6.cell' m2 hbs
        refine held_by (heldOK_one m26) ?_
        simp (disch := omega) only [go_sem, ↓cw_block, r1, r5, r6, r7, r8, r9, r10, r11, rd]
        refine held_by (heldOK_one ((Fr.push (F := [])).cell' m26 (by simp))) ?_
        simp (disch := omega) only [go_sem, ↓cw_block, r1, r5, r6, r7, r8, r9, r10, r11, rd]
        have gm6 := gm.graph h6 f6 g6 hp6
        refine ge.push h6 f6 g6 he6 hp6 (by omega) ?_
        intro w7 H7 ge7 f7 o7
        have gm7 : GMk H7 g m B6 B ns6 ins s := gm6.frame f7 (fun b hb e => (g6 b hb).elim (fun q => (ge.fw b e).2 q) (fun q => by have := hwl b e; omega)) (fun b hb e => (hB b hb).2 e)
        have hel : es.length < (es ++ [e6]).length := by simp
        obtain ⟨bw, ow, cw', ew, hcw⟩ := ge7.iv.at (i := es.length) (by simp)
        rw [nt_nat hel] at hcw
        have eg : (es ++ [e6])[es.length] = e6 := by simp
        rw [eg] at hcw
        rw [List.length_map] at ew
        have hlen7 : (es ++ [e6]).length = es.length + 1 := by simp
        rw [hlen7] at ew
        have hB7 : ∀ b ∈ B, b ∉ own w7 := by
          intro b hb e
          rcases o7 b e with h | h
          · exact (hB b hb).2 h
          · have := hml b hb; have := f6.size; omega
        subst ew
        have el1 : ((es.length + 1 : Nat) : Int) - 1 = (es.length : Int) := by omega
        simp (disch := omega) only [go_sem, ↓cw_block, r1, r5, r6, r7, r8, r9, r10, r11, rd, el1, hcw]
        refine call_to (Lit_spec gm7 (by omega)) ?_
        rw [ownM_of he6]
        rintro _ H8 ⟨rfl, f8, B8, gm8, g8⟩
        obtain ⟨t0, t1, t2, _⟩ := needM_list gm7.dn (e6 / 2) s
        have hl8 := gm8.len
        have hbg8 := gm8.big
        have lin := litM_in t2
        have ge8 := ge7.frame f8 gm7.dis (fun b hb e => hB7 b e hb) (fun b hb => (hB b hb).1)
        have hB8 : ∀ b ∈ B8, H1.size ≤ b ∧ b ∉ own (Value.slice (some ⟨bw, ow, none⟩) (es.length + 1) cw') := by
          intro b hb
          rcases g8 b hb with h | h
          · exact ⟨(hB b h).1, hB7 b h⟩
          · exact ⟨by have := ge7.fr.size; omega, fun e => by have := ge7.iv.lt b e; omega⟩
        simp (disch := omega) only [go_sem, ↓cw_block, r1, r5, r6, r7, r8, r9, r10, r11, rd]
        refine call_to (vars_spec gm8.mkr) ?_
        rintro _ _ ⟨rfl, rfl⟩
        simp (disch := omega) only [go_sem, ↓cw_block, r1, r5, r6, r7, r8, r9, r10, r11, rd]
        refine call_to (vars_spec gm8.mkr) ?_
        rintro _ _ ⟨rfl, rfl⟩
        simp (disch := omega) only [go_sem, ↓cw_block, r1, r5, r6, r7, r8, r9, r10, r11, rd]
        refine fin ⟨more.length - (i + 1), by omega, i + 1, B6, B8, ns6, ins, _, es ++ [e6], _, rfl, by omega, by simp (disch := omega) only [go_sem, ↓cw_block, r1, r5, r6, r7, r8, r9, r10, r11, rd, hi1], ge8, gm8, hB8, ?_, ?_, ?_, by simp; omega, by omega, by omega⟩
        · rw [t1]; simp [hin0]
        · rw [t1, litM_append hin0]; exact hlit
        · rw [t1, List.length_append]; omega
      · have id1 : needM ns (e0 / 2) s = s := needM_named hin0
        have lin := litM_in hin0
        rw [hlit] at lin
        have hl5 := gm.len
        have hbg5 := gm.big
        simp (disch := omega) only [go_sem, ↓cw_block, r1, r5, r6, r7, r8, r9, r10, r11, rd]
        refine call_to (Lit_spec gm (by omega)) ?_
        rw [ownM_of hei, id1]
        rintro _ H6 ⟨rfl, f6, B6, gm6, g6⟩
        rw [hlit]
        simp (disch := omega) only [go_sem, ↓cw_block, r1, r5, r6, r7, r8, r9, r10, r11, rd]
        refine call_to (vars_spec gm6.mkr) ?_
        rintro _ _ ⟨rfl, rfl⟩
        simp (disch := omega) only [go_sem, ↓cw_block, r1, r5, r6, r7, r8, r9, r10, r11, rd, dsB_of]
        exact fin ⟨congrArg Value.bool (by simp; omega), fr_new' (f1.trans ge.fr) f6 (fun b hb => by have := (hB b hb).1; have := f1.size; omega)⟩
end
end Go.Proofs.Ytplcehlonfhooaa
