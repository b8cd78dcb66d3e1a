/- The law's graph, made of acts. -/
import Derived.Test.YtplcehlonfhooaaCnfQ
namespace Go.Proofs.Ytplcehlonfhooaa
open Go.HL
set_option maxRecDepth 10000
set_option linter.unusedSimpArgs false

/-- What a slice of acts is, as an argument: kind, a, b. -/
def ArgActs (H : Heap) (v : Value) (rows : List (Int × Int × Int)) : Prop := ∃ a c, v = .slice a rows.length c ∧ ∀ (i : Nat) x, rows[i]? = some x → (∃ b o, a = some ⟨b, o, none⟩ ∧ cellH H ⟨b, o + i * 4, none⟩ = some (iv x.1) ∧ cellH H ⟨b, o + i * 4 + 1, none⟩ = some (iv x.2.1) ∧ cellH H ⟨b, o + i * 4 + 2, none⟩ = some (iv x.2.2)) ∧
  x.2.1 ≤ 9223372036854775807 ∧ x.2.2 ≤ 9223372036854775807
theorem nt_nat {es : List Nat} {i : Nat} (h : i < es.length) : nt (es.map Int.ofNat) i = ((es[i] : Nat) : Int) := by unfold nt; simp [h]
section
variable {H : Heap}
theorem at_spec {w : Value} {es : List Nat} {N : Nat} {n : Int} (hw : IV H 3 w (es.map Int.ofNat)) (h0 : 0 < es.length) (hl : es.length ≤ 100000) (hN : N ≤ 400000) (he : ∀ e ∈ es, e < 2 * N) (hn : n ≤ 9223372036854775807) :
    CallF Try.prog 14 [w, iv n] H (fun r H' => H = H' ∧ ∃ e : Nat, r = iv e ∧ e < 2 * N) NoP := by
  have hr0 := Int.emod_nonneg (max n 0 / 2) (b := (es.length : Int)) (by omega)
  have hr1 := Int.emod_lt_of_pos (max n 0 / 2) (b := (es.length : Int)) (by omega)
  obtain ⟨j, hj⟩ : ∃ j : Nat, max n 0 / 2 % (es.length : Int) = (j : Int) := ⟨(max n 0 / 2 % (es.length : Int)).toNat, by omega⟩
  have hjl : j < es.length := by omega
  obtain ⟨b, o, c, ev, hc⟩ := hw.at (i := j) (by simpa using hjl)
  rw [nt_nat hjl] at hc
  rw [List.length_map] at ev
  have hej := he es[j] (List.getElem_mem hjl)
  have hlen : (es.map Int.ofNat).length = es.length := by simp
  subst ev
  refine callF_of Try.func14 rfl Try.ntmps14 Try.results14 (by decide) rfl ?_
  by_cases ho : max n 0 % 2 = 1
  · simp (disch := omega) only [go_sem, ↓cw_block, hj, hc]
    refine call_to (not_spec (by omega)) ?_
    rintro _ _ ⟨rfl, rfl⟩
    simp (disch := omega) only [go_sem, ↓cw_block]
    exact fin ⟨rfl, _, rfl, nx_lt hej⟩
  · simp (disch := omega) only [go_sem, ↓cw_block, hj, hc]
    exact fin ⟨rfl, _, rfl, hej⟩

/-- A graph and edges of it. -/
structure GE (H0 H : Heap) (g : Nat) (Bg : List Nat) (ns : List Pr) (ins : List Nat) (w : Value) (es : List Nat) : Prop where
  gr : Gr H g Bg ns ins
  fr : Fr [] H0 H
  fg : ∀ b ∈ Bg, H0.size ≤ b
  iv : IV H 3 w (es.map Int.ofNat)
  fw : ∀ b ∈ own w, H0.size ≤ b ∧ b ∉ Bg
  ed : ∀ e ∈ es, e < 2 * ns.length
/-- One edge more. -/
theorem GE.push {H0 H H2 : Heap} {g : Nat} {Bg B2 : List Nat} {ns ns2 : List Pr} {ins ins2 : List Nat} {w : Value} {es : List Nat} (h : GE H0 H g Bg ns ins w es) (h2 : Gr H2 g B2 ns2 ins2) (f2 : Fr Bg H H2) (g2 : Grow Bg B2 H) {e k : Nat} (he : e < 2 * ns2.length) (hp : Pre ns ns2 k)
    (hl : es.length ≤ 1000) {K : Value → Heap → Prop} (hK : ∀ w' H', GE H0 H' g B2 ns2 ins2 w' (es ++ [e]) → Fr (own w) H2 H' → (∀ b ∈ own w', b ∈ own w ∨ H2.size ≤ b) → K w' H') :
    @appB Try.prog 26 26 w (.slice (some ⟨H2.size, 0, none⟩) 1 1) ⟨H2.push (.cells #[.int .i64 (e : Int)] 3)⟩ ⟨K⟩ := by
  have hw := h.iv.frame f2 (fun b hb => (h.fw b hb).2)
  refine app_lit1 T.el26 rfl hw rfl (by simp; omega) ?_
  rintro w' H' k1 k2 k3 _
  have hlt := h.iv.lt
  have hg2 := h2.lt
  have hs := f2.size
  refine hK w' H' ⟨h2.frame k2 (fun b hb e => ?_), fr_new' (fr_new' h.fr f2 h.fg) k2 (fun b hb => (h.fw b hb).1), fun b hb => ?_, ?_, fun b hb => ?_, fun x hx => ?_⟩ k2 k3
  · rcases g2 b hb with q | q
    · exact (h.fw b e).2 q
    · have := hlt b e; omega
  · exact (g2 b hb).elim (h.fg b) (fun q => by have := h.fr.size; omega)
  · unfold IV
    rw [List.map_append, List.map_append]
    exact k1
  · rcases k3 b hb with q | q
    · refine ⟨(h.fw b q).1, fun e => ?_⟩
      rcases g2 b e with q' | q'
      · exact (h.fw b q).2 q'
      · have := hlt b q; omega
    · exact ⟨by have := h.fr.size; omega, fun e => by have := hg2 b e; omega⟩
  · rw [List.mem_append] at hx
    rcases hx with hx | hx
    · have := h.ed x hx; have := hp.len; omega
    · simp at hx; omega

set_option maxHeartbeats 1000000 in
theorem made_spec {v : Value} {rows : List (Int × Int × Int)} (hv : ArgActs H v rows) (hr : rows.length ≤ 30) : CallF Try.prog 7 [v] H (fun r H' => ∃ g Bg ns ins w es, r = .tuple #[hp g, w] ∧ GE H H' g Bg ns ins w es ∧ es.length = rows.length + 4 ∧ ns.length ≤ 4 + 3 * rows.length) NoP := by
  obtain ⟨a, c, rfl, hat⟩ := hv
  refine callF_of Try.func7 rfl Try.ntmps7 Try.results7 (by decide) rfl ?_
  simp (disch := omega) only [go_sem, ↓cw_block]
  refine call_to gnew_spec ?_
  rintro _ H1 ⟨f1, g, B1, rfl, h1, b1⟩
  simp (disch := omega) only [go_sem, ↓cw_block]
  refine call_to (input_spec h1 (by simp)) ?_
  rintro _ H2 ⟨rfl, B2, h2, f2, g2⟩
  simp (disch := omega) only [go_sem, ↓cw_block]
  refine call_to (input_spec h2 (by simp)) ?_
  rintro _ H3 ⟨rfl, B3, h3, f3, g3⟩
  simp (disch := omega) only [go_sem, ↓cw_block]
  refine call_to (input_spec h3 (by simp)) ?_
  rintro _ H4 ⟨rfl, B4, h4, f4, g4⟩
  have F4 : Fr B1 H1 H4 := Fr.grow (Fr.grow f2 f3 g2) f4 (g2.trans g3 f2.size)
  have G4 : Grow B1 B4 H1 := (g2.trans g3 f2.size).trans g4 (Nat.le_trans f2.size f3.size)
  obtain ⟨H5, hH5⟩ : ∃ H5, H5 = H4.push (.cells #[iv 0, iv 2, iv 4, iv 6] 3) := ⟨_, rfl⟩
  have F5 : Fr [] H4 H5 := by rw [hH5]; exact Fr.push
  have b5 : Blk H5 H4.size 3 [iv 0, iv 2, iv 4, iv 6] := by rw [hH5]; exact Blk.new rfl
  have ge5 : GE H H5 g B4 [(0, 0), (0, 0), (0, 0), (0, 0)] [1, 2, 3] (.slice (some ⟨H4.size, 0, none⟩) 4 4) [0, 2, 4, 6] := by
    refine ⟨h4.frame F5 (by simp), (fr_new' f1 F4 b1).trans F5, fun b hb => (G4 b hb).elim (b1 b) (fun q => by have := f1.size; omega), ⟨.inr ⟨H4.size, 4, 4, [], [], rfl, by simpa using b5, rfl, rfl, by omega⟩⟩, ?_, by simp⟩
    intro b hb
    simp [own] at hb
    subst hb
    exact ⟨by have := f1.size; have := F4.size; omega, fun e => by have := h4.lt _ e; omega⟩
  have e2 : (((2 * [((0 : Nat), (0 : Nat))].length : Nat)) : Int) = 2 := rfl
  have e4 : (((2 * ([((0 : Nat), (0 : Nat))] ++ [(0, 0)]).length : Nat)) : Int) = 4 := rfl
  have e6 : (((2 * ([((0 : Nat), (0 : Nat))] ++ [(0, 0)] ++ [(0, 0)]).length : Nat)) : Int) = 6 := rfl
  rw [e2, e4, e6]
  simp (disch := omega) only [go_sem, ↓cw_block]
  rw [← hH5]
  refine loop_by (fun k ρ H6 => ∃ (i : Nat) (Bg : List Nat) (ns : List Pr) (ins : List Nat) (w : Value) (es : List Nat), k = rows.length - i ∧ i ≤ rows.length ∧ (ρ.get 0 = .slice a rows.length c ∧ ρ.get 4 = hp g ∧ ρ.get 5 = w ∧ ρ.get 6 = iv i ∧ ρ.ds = []) ∧
    GE H H6 g Bg ns ins w es ∧ es.length = i + 4 ∧ ns.length ≤ 4 + 3 * i) (k := rows.length) ?_ ?_
  · exact ⟨0, B4, _, _, _, _, rfl, by omega, by simp (disch := omega) only [go_sem, ↓cw_block], ge5, rfl, by simp⟩
  · rintro k ρ H6 ⟨i, Bg, ns, ins, w, es, rfl, hi, ⟨r0, r4, r5, r6, rd⟩, ge, hes, hns⟩
    have hi1 : (i : Int) + 1 = ((i + 1 : Nat) : Int) := by omega
    by_cases hin : i < rows.length
    · obtain ⟨⟨b, o, rfl, k0, k1, k2⟩, hb1, hb2⟩ := hat i _ (List.getElem?_eq_getElem hin)
      generalize rows[i] = x at k0 k1 k2 hb1 hb2
      obtain ⟨xk, xa, xb⟩ := x
      simp only at k0 k1 k2 hb1 hb2
      have m0 := ge.fr.cell' k0 (by simp)
      have m1 := ge.fr.cell' k1 (by simp)
      have m2 := ge.fr.cell' k2 (by simp)
      simp (disch := omega) only [go_sem, r0, r4, r5, r6, rd]
      rw [cw_block]
      simp (disch := omega) only [go_sem, r0, r4, r5, r6, rd]
      refine draw1 (lk [(0, true), (1, true), (2, true), (3, true), (4, true), (5, true), (7, false), (8, false), (9, false), (10, false), (11, false), (12, false)] (.act 6 (.actd 13 (lk [(14, true), (15, true)] .fin)) .non)) T.mixed [(⟨b, o + i * 4 + 2, none⟩, iv xb)] (heldOK_one m2) ?_
      simp (disch := omega) only [go_sem, r0, r4, r5, r6, rd, m0, m1, m2]
      refine call_to (at_spec ge.iv (by omega) (by omega) (N := ns.length) (by omega) ge.ed hb1) ?_
      rintro _ _ ⟨rfl, ea, rfl, hea⟩
      refine held_by (heldOK_one m2) ?_
      simp (disch := omega) only [go_sem, r0, r4, r5, r6, rd, m0, m1, m2]
      refine call_to (at_spec ge.iv (by omega) (by omega) (N := ns.length) (by omega) ge.ed hb2) ?_
      rintro _ _ ⟨rfl, eb, rfl, heb⟩
      simp (disch := omega) only [go_sem, r0, r4, r5, r6, rd, m0, m1, m2]
      refine cut_tail (fun ρ H7 => ∃ (Bg : List Nat) (ns : List Pr) (ins : List Nat) (w : Value) (es : List Nat), (ρ.get 0 = .slice (some ⟨b, o, none⟩) rows.length c ∧ ρ.get 4 = hp g ∧ ρ.get 5 = w ∧ ρ.get 6 = iv i ∧ ρ.ds = []) ∧
        GE H H7 g Bg ns ins w es ∧ es.length = i + 1 + 4 ∧ ns.length ≤ 4 + 3 * (i + 1)) ?_ ?_
      · by_cases q0 : xk = 0
        · subst q0
          simp (disch := omega) only [go_sem, ↓cw_block, r0, r4, r5, r6, rd]
          refine call_to (input_spec ge.gr (by omega)) ?_
          rintro _ H7 ⟨rfl, B7, h7, f7, g7⟩
          simp (disch := omega) only [go_sem, ↓cw_block, r0, r4, r5, r6, rd]
          refine ge.push h7 f7 g7 (e := 2 * ns.length) (k := 1) (by simp) ⟨[(0, 0)], rfl, by simp⟩ (by omega) ?_
          intro w' H8 ge8 _ _
          simp (disch := omega) only [go_sem, ↓cw_block, r0, r4, r5, r6, rd]
          exact fin ⟨_, _, _, w', _, by simp (disch := omega) only [go_sem, ↓cw_block, r0, r4, r5, r6, rd], ge8, by simp [hes], by simp; omega⟩
        · by_cases q1 : xk = 1 ∨ xk = 2
          · have go1 : CallF Try.prog 13 [hp g, iv ea, iv eb] H6 (GO H6 g Bg ns ins 1) NoP := and_spec' ge.gr (by omega) (by omega) (by omega)
            by_cases q2 : xk = 1
            · simp (disch := omega) only [go_sem, ↓cw_block, r0, r4, r5, r6, rd]
              refine call_to go1 ?_
              rintro _ H7 ⟨e7, ns7, rfl, he7, hp7, B7, h7, f7, g7⟩
              have l7 := hp7.len
              simp (disch := omega) only [go_sem, ↓cw_block, r0, r4, r5, r6, rd]
              refine ge.push h7 f7 g7 he7 hp7 (by omega) ?_
              intro w' H8 ge8 _ _
              simp (disch := omega) only [go_sem, ↓cw_block, r0, r4, r5, r6, rd]
              exact fin ⟨_, _, _, w', _, by simp (disch := omega) only [go_sem, ↓cw_block, r0, r4, r5, r6, rd], ge8, by simp [hes], by omega⟩
            · simp (disch := omega) only [go_sem, ↓cw_block, r0, r4, r5, r6, rd]
              refine call_to go1 ?_
              rintro _ H7 ⟨e7, ns7, rfl, he7, hp7, B7, h7, f7, g7⟩
              have l7 := hp7.len
              simp (disch := omega) only [go_sem, ↓cw_block, r0, r4, r5, r6, rd]
              refine ge.push h7 f7 g7 he7 hp7 (by omega) ?_
              intro w' H8 ge8 _ _
              simp (disch := omega) only [go_sem, ↓cw_block, r0, r4, r5, r6, rd]
              exact fin ⟨_, _, _, w', _, by simp (disch := omega) only [go_sem, ↓cw_block, r0, r4, r5, r6, rd], ge8, by simp [hes], by omega⟩
          · by_cases q3 : xk = 3
            · simp (disch := omega) only [go_sem, ↓cw_block, r0, r4, r5, r6, rd]
              refine call_to (xor_spec ge.gr (by omega) (by omega) (by omega)) ?_
              rintro _ H7 ⟨e7, ns7, rfl, he7, hp7, B7, h7, f7, g7⟩
              have l7 := hp7.len
              simp (disch := omega) only [go_sem, ↓cw_block, r0, r4, r5, r6, rd]
              refine ge.push h7 f7 g7 he7 hp7 (by omega) ?_
              intro w' H8 ge8 _ _
              simp (disch := omega) only [go_sem, ↓cw_block, r0, r4, r5, r6, rd]
              exact fin ⟨_, _, _, w', _, by simp (disch := omega) only [go_sem, ↓cw_block, r0, r4, r5, r6, rd], ge8, by simp [hes], by omega⟩
            · simp (disch := omega) only [go_sem, ↓cw_block, r0, r4, r5, r6, rd]
              refine call_to (or_spec ge.gr (by omega) (by omega) (by omega)) ?_
              rintro _ H7 ⟨e7, ns7, rfl, he7, hp7, B7, h7, f7, g7⟩
              have l7 := hp7.len
              simp (disch := omega) only [go_sem, ↓cw_block, r0, r4, r5, r6, rd]
              refine ge.push h7 f7 g7 he7 hp7 (by omega) ?_
              intro w' H8 ge8 _ _
              simp (disch := omega) only [go_sem, ↓cw_block, r0, r4, r5, r6, rd]
              exact fin ⟨_, _, _, w', _, by simp (disch := omega) only [go_sem, ↓cw_block, r0, r4, r5, r6, rd], ge8, by simp [hes], by omega⟩
      · rintro ρ7 H7 ⟨Bg7, ns7, ins7, w7, es7, ⟨x0, x4, x5, x6, xd⟩, ge7, hes7, hns7⟩
        simp (disch := omega) only [go_sem, ↓cw_block, x0, x4, x5, x6, xd]
        exact fin ⟨rows.length - (i + 1), by omega, i + 1, Bg7, ns7, ins7, w7, es7, rfl, by omega, by simp (disch := omega) only [go_sem, ↓cw_block, x0, x4, x5, x6, xd, hi1], ge7, hes7, hns7⟩
    · have : i = rows.length := by omega
      subst this
      simp (disch := omega) only [go_sem, ↓cw_block, r0, r4, r5, r6, rd, dsB_of]
      exact fin ⟨g, Bg, ns, ins, w, es, rfl, ge, hes, hns⟩
end
end Go.Proofs.Ytplcehlonfhooaa
